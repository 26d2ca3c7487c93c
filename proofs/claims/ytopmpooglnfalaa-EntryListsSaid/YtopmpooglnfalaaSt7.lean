/- Steps (part 7): loops; what is told in other words; calls that only look; clear, copy, interface values. No program in sight. -/
import Derived.Test.YtopmpooglnfalaaSt6
set_option linter.unusedVariables false
set_option linter.unusedSimpArgs false
namespace Go.Ab
variable {P : Program}

/-- Once more through the loop, with less. -/
def Again {β : Type} (pre : β → Prop) (slots : β → List AV) (st : β → Store) (ms : β → Nat) (n : Nat) (vs : List AV) (σ : Store) : Prop := ∃ m vs' τ, m < n ∧ Sub σ vs τ vs' ∧ ∃ x, m = ms x ∧ pre x ∧ vs' = slots x ∧ τ = st x
theorem again {β : Type} {pre : β → Prop} {slots : β → List AV} {st : β → Store} {ms : β → Nat} {n : Nat} {vs : List AV} {σ : Store} (x : β) (h1 : ms x < n) (h2 : pre x) (h3 : Sub σ vs (st x) (slots x)) : Again pre slots st ms n vs σ :=
  ⟨_, _, _, h1, h3, x, rfl, h2, rfl, rfl⟩
/-- A loop: what is known of its slots and its memory, told by something that gets less. -/
theorem loopI {β : Type} (pre : β → Prop) (slots : β → List AV) (st : β → Store) (ms : β → Nat) {body : (List AV → Store → Prop) → List AV → Store → Prop} {vals : List AV} {σ : Store} (x0 : β) (h0 : pre x0) (hs : Sub σ vals (st x0) (slots x0))
    (hb : ∀ x, pre x → body (Again pre slots st ms (ms x)) (slots x) (st x)) : aLoop body vals σ := by
  refine ⟨fun n vs τ => ∃ x, n = ms x ∧ pre x ∧ vs = slots x ∧ τ = st x, ⟨ms x0, slots x0, st x0, hs, x0, rfl, h0, rfl, rfl⟩, ?_⟩
  rintro n vs τ ⟨x, rfl, h, rfl, rfl⟩
  exact hb x h
/-- Where ways meet. -/
def Meet {β : Type} (pre : β → Prop) (slots : β → List AV) (st : β → Store) (vs : List AV) (σ : Store) : Prop := ∃ vs' τ, Sub σ vs τ vs' ∧ ∃ x, pre x ∧ vs' = slots x ∧ τ = st x
theorem meet {β : Type} {pre : β → Prop} {slots : β → List AV} {st : β → Store} {vs : List AV} {σ : Store} (x : β) (h2 : pre x) (h3 : Sub σ vs (st x) (slots x)) : Meet pre slots st vs σ := ⟨_, _, h3, x, h2, rfl, rfl⟩
theorem joinI {β : Type} (pre : β → Prop) (slots : β → List AV) (st : β → Store) {x : (List AV → Store → Prop) → Prop} {y : List AV → Store → Prop}
    (h : x (Meet pre slots st)) (hy : ∀ b, pre b → y (slots b) (st b)) : aJoin x y :=
  ⟨fun vs τ => ∃ x, pre x ∧ vs = slots x ∧ τ = st x, h, fun vs τ ⟨b, h1, h2, h3⟩ => by rw [h2, h3]; exact hy b h1⟩
/-- Where ways meet: each goes on by itself. -/
def Goes (y : List AV → Store → Prop) (vs : List AV) (σ : Store) : Prop := ∃ vs' τ, Sub σ vs τ vs' ∧ y vs' τ
instance goes_ (y : List AV → Store → Prop) (vs : List AV) (σ : Store) : Stp (Goes y vs σ) (y vs σ) := ⟨fun h => ⟨_, _, Sub.refl _ _, h⟩⟩
theorem joinE {x : (List AV → Store → Prop) → Prop} {y : List AV → Store → Prop} (h : x (Goes y)) : aJoin x y := ⟨y, h, fun _ _ h => h⟩

/-! in other words -/
theorem Sub.nil_own (E : TypeId) {sz : Nat} (hz : 0 < sz) (σ : Store) (pre post : List AV) : Sub σ (pre ++ .val (.slice none 0 0) :: post) (.row (.slice none 0 0) E sz [] 0 :: σ) (pre ++ .own (.slice none 0 0) 0 :: post) := by
  intro R w vs hv hs
  obtain ⟨g1, g2⟩ := st_nilRow hs E hz
  refine ⟨R, ⟨?_, fun j u v hu hx => ?_⟩, g1, g2⟩
  · rw [hv.1]; simp
  · rcases Nat.lt_trichotomy j pre.length with h | h | h
    · exact hv.2 j u v (by rw [List.getElem?_append_left h] at hu ⊢; exact hu) hx
    · subst h
      simp at hu
      subst hu
      have := hv.2 pre.length (.val (.slice none 0 0)) v (by simp) hx
      rw [this.val_inv]
      exact .own (.inl ⟨rfl, rfl⟩)
    · refine hv.2 j u v ?_ hx
      rw [List.getElem?_append_right (by omega)] at hu ⊢
      cases hn : j - pre.length with
      | zero => omega
      | succ n => rw [hn] at hu; simpa using hu
theorem Sub.perm {σ τ : Store} (h : σ.Perm τ) (args : List AV) : Sub σ args τ args := Sub.less (Less.perm h) args
theorem Sub.drop_ {σ τ : Store} (h : τ.Sublist σ) (args : List AV) : Sub σ args τ args := Sub.less (Less.sub h) args
theorem Sub.app_nil {σ : Store} (args : List AV) : Sub σ args [] args := Sub.less (Less.sub (List.nil_sublist _)) args
/-- A store in another order, some of it forgotten. -/
class TakeE (e : Ent) (σ : Store) (rest : outParam Store) : Prop where
  perm : σ.Perm (e :: rest)
instance takeHead (e : Ent) (σ : Store) : TakeE e (e :: σ) σ := ⟨List.Perm.refl _⟩
instance (priority := 90) takeTail (e e' : Ent) (σ rest : Store) [h : TakeE e σ rest] : TakeE e (e' :: σ) (e' :: rest) := ⟨(h.perm.cons e').trans (List.Perm.swap e e' rest)⟩
class PermTo (σ τ : Store) : Prop where
  less : ∃ ρ, σ.Perm (τ ++ ρ)
instance (priority := 1100) (σ : Store) : PermTo σ σ := ⟨[], by simp⟩
instance (σ : Store) : PermTo σ [] := ⟨σ, by simp⟩
instance (e : Ent) (σ rest τ : Store) [h : TakeE e σ rest] [k : PermTo rest τ] : PermTo σ (e :: τ) := ⟨by
  obtain ⟨ρ, hp⟩ := k.less
  exact ⟨ρ, h.perm.trans (hp.cons e)⟩⟩
theorem subS {σ τ : Store} [h : PermTo σ τ] (args : List AV) : Sub σ args τ args := by
  obtain ⟨ρ, hp⟩ := h.less
  exact Sub.less ((Less.sub (List.sublist_append_left τ ρ)).trans (Less.perm hp)) args
/-- A row that is frozen, wherever it stands. -/
theorem Sub.frz {σ rest : Store} {v : Value} {E : TypeId} {sz fl : Nat} {l : List AV} {put : Ent → Store} [h : RowAt v σ E sz l fl put rest] {args args' : List AV} (hf : Frzs v (.lst sz l .ro) args args') : Sub σ args rest args' := by
  obtain ⟨σ1, σ2, rfl, _, rfl⟩ := h.at_
  exact Sub.freeze hf
/-- A part of a row, once this is frozen. -/
theorem sub_lst {R : RO} {v x : Value} {sz a n : Nat} {l : List AV} (hv : VR R v (.lst sz l .ro)) (hx : SubOf v sz a n x) (hle : a + n ≤ l.length) : VR R x (.lst sz ((l.drop a).take n) .ro) := by
  obtain ⟨ao, cap, vs, hv, hz, hsz, hr, hR, hm, hb, hone⟩ := hv.lst_inv
  rcases hx with ⟨h1, rfl, rfl, rfl⟩ | ⟨g, n0, cap', p, h1, h2, h3, rfl⟩
  · simp only [List.take_zero]
    exact .lst [] rfl hz (by simp) rfl (by simp [flat]) (by simp) (by simp [SMok]) (Nat.zero_le _) (by simp)
  · rw [h1] at hv
    simp only [Value.slice.injEq] at hv
    obtain ⟨rfl, rfl, rfl⟩ := hv
    have := lst_cut (R := R) (ao' := some p) (l := a) (h := a + n) (cp := cap' - a) (m := .ro) hz hsz hr hR hone hb (by omega) hle (fun hlt => by
      rw [h3 (by omega)]
      simp only [Option.map_some]
      congr 1
      rw [addr_lit_add, Nat.zero_add]) (by simp only [SMok]; omega)
    have e : a + n - a = n := by omega
    rw [e] at this
    have e2 : (l.take (a + n)).drop a = (l.drop a).take n := by rw [List.drop_take, e]
    rw [e2] at this
    exact this
theorem Sub.cons_sub {σ1 σ2 σ' : Store} {v : Value} {E : TypeId} {sz fl a n : Nat} {l us us' : List AV} (hle : a + n ≤ l.length) (h : Sub (σ1 ++ σ2) us σ' us') : Sub (σ1 ++ .row v E sz l fl :: σ2) (.sub v sz a n :: us) σ' (.lst sz ((l.drop a).take n) .ro :: us') := by
  refine Sub.trans (σ1 := σ1 ++ σ2) (a1 := .lst sz ((l.drop a).take n) .ro :: us) ?_ (Sub.cons_same _ h)
  intro R w vs hv hs
  obtain ⟨R', h1, h2, h3, h4⟩ := freeze_row hs
  obtain ⟨hl, hr⟩ := hv
  match vs, hl with
  | x :: vs, hl =>
    have h0 := (hr 0 _ x rfl rfl).sub_inv
    have hv' : VRs R vs us := ⟨by simpa using hl, fun j u y hx hy => hr (j + 1) u y (by simpa using hx) (by simpa using hy)⟩
    exact ⟨R', VRs.cons (sub_lst h4 h0 hle) (hv'.mono h1), h2, h3⟩
/-- Some part of a list. -/
class SubLe (a n m : Nat) : Prop where
  le : a + n ≤ m
section looks
variable {f : FuncId} {args args' a b : List AV} {pre : Prop} {u : AV} {K : AV → Prop} {σ σ' : Store} {k : AV → Store → Prop}
instance lookC_ [hg : Give σ args σ' args'] [h : PC P f args' pre u] [hu : Ground u] : Stp (Do (lookC P f args σ) K) (Need pre (K u)) := ⟨fun ⟨h1, h2⟩ => by
  obtain ⟨args1, hs, hp⟩ := h.ct h1
  exact ⟨u, ⟨σ', args1, hg.sub.trans (Sub.vals hs), hp, hu.g⟩, h2⟩⟩
instance lookVf {g : FuncId} : Stp (Do (lookV P (.fn (.func g) a b) args σ) K) (Do (lookC P g (a ++ args ++ b) σ) K) := ⟨fun h => h⟩
instance lookVv {g : FuncId} : Stp (Do (lookV P (.val (.func (.func g) #[] #[])) args σ) K) (Do (lookC P g args σ) K) := ⟨fun ⟨v, h1, h2⟩ => ⟨v, by
  have e : ([] ++ args ++ [] : List AV) = args := by simp
  unfold lookV calleeOf
  simp only [List.toList_toArray, List.map_nil, e]
  exact h1, h2⟩⟩
end looks
/-- What is handed back, told in other words. -/
theorem ACalls.fin {f : FuncId} {args : List AV} {σ : Store} {Q : AEnd → Store → Prop} (h : ACalls P f args σ fun x σ' => ∃ u u1 τ, x = .ret u ∧ Sub σ' [u] τ [u1] ∧ Q (.ret u1) τ) : ACalls P f args σ Q :=
  h.sub fun x σ' ⟨u, u1, τ, h1, h2, h3⟩ => ⟨u, u1, τ, h1, h2, h3⟩
theorem retOwn {σ rest : Store} {v : Value} {E : TypeId} {sz fl n : Nat} {l : List AV} {put : Ent → Store} [h : RowAt v σ E sz l fl put rest] {us us' : List AV} (hs : Sub rest us [] us') : Sub σ (.own v n :: us) [] (.lst sz l .ro :: us') := by
  obtain ⟨σ1, σ2, rfl, _, rfl⟩ := h.at_
  exact Sub.cons_own hs
theorem retNil {α : Type} (f : α → AV) {sz : Nat} (hz : 0 < sz) {σ τ : Store} {us us' : List AV} (hs : Sub σ us τ us') : Sub σ (.val (.slice none 0 0) :: us) τ (.lst sz (([] : List α).map f) .ro :: us') :=
  Sub.trans (Sub.cons_same _ hs) (Sub.vals ⟨fun R v h => SubV.ro _ _ _ R v (SubV.nil sz hz R v h), SubVs.refl _⟩)
theorem retLst {sz : Nat} {l : List AV} {m : SM} {σ τ : Store} {us us' : List AV} (hs : Sub σ us τ us') : Sub σ (.lst sz l m :: us) τ (.lst sz l .ro :: us') :=
  Sub.trans (Sub.cons_same _ hs) (Sub.vals ⟨SubV.ro _ _ _, SubVs.refl _⟩)
/-- append, whose outcome turns no more. -/
def subF (k : AV → Store → Prop) : AV → Store → Prop := subK k
section appF
variable {α : Type} {f : α → AV} {sz s by_ n fl : Nat} {l ys : List α} {E : TypeId} {σ rest : Store} {put : Ent → Store} {k : AV → Store → Prop} {v : Value} {x : AV} {m : SM}
instance appOF [hr : RowAt v σ E sz (l.map f) fl put rest] [hs : SrcI sz σ x α f ys] : Stp (aAppend E sz by_ (.own v n) x σ (subF k))
    (Need ((l.length + ys.length) * by_ ≤ 140737488355328 ∧ l.length + ys.length ≤ 9223372036854775807) (k (.lst sz ((l ++ ys).map f) .ro) rest)) :=
  ⟨fun ⟨h, hK⟩ => by
    obtain ⟨σ1, σ2, e, _, e2⟩ := hr.at_
    have hs' := hs.src
    subst e
    exact s_app_own hs' h.1 h.2 fun v' => ⟨_, _, Sub.freeze (σ1 := σ1) (σ2 := σ2) (args' := [.lst sz ((l ++ ys).map f) .ro]) ⟨.inr ⟨⟨_, rfl⟩, rfl⟩, trivial⟩, by rw [← e2]; exact hK⟩⟩
instance appNF [hs : SrcI sz σ x α f ys] : Stp (aAppend E sz by_ (.val (.slice none 0 0)) x σ (subF k))
    (Need (ys.length * by_ ≤ 140737488355328 ∧ ys.length ≤ 9223372036854775807) (k (.lst sz (ys.map f) .ro) σ)) :=
  ⟨fun ⟨h, hK⟩ => s_app_nil hs.src h.1 h.2 fun v' => ⟨_, _, Sub.freeze0 (args' := [.lst sz (ys.map f) .ro]) ⟨.inr ⟨⟨_, rfl⟩, rfl⟩, trivial⟩, hK⟩⟩
instance appFF [hs : SrcI sz σ x α f ys] : Stp (aAppend E sz by_ (.lst sz (l.map f) .full) x σ (subF k))
    (Need ((l.length + ys.length) * by_ ≤ 140737488355328 ∧ l.length + ys.length ≤ 9223372036854775807) (k (.lst sz ((l ++ ys).map f) .ro) σ)) :=
  ⟨fun ⟨h, hK⟩ => by
    by_cases hy : ys = []
    · subst hy
      have hs' := hs.src
      refine s_app_none hs' ⟨.lst sz ((l ++ []).map f) .ro, σ, ?_, hK⟩
      rw [List.append_nil]
      exact Sub.vals ⟨SubV.ro _ _ _, trivial⟩
    · exact s_app_full hs.src hy h.1 h.2 fun v' => ⟨_, _, Sub.freeze0 (args' := [.lst sz ((l ++ ys).map f) .ro]) ⟨.inr ⟨⟨_, rfl⟩, rfl⟩, trivial⟩, hK⟩⟩
end appF
/-- Its type is no interface. -/
class ConT (P : Program) (t : TypeId) : Prop where
  h : (match P.underlying t with | some (.interface _) => False | some _ => True | none => False)
instance assertT {t : TypeId} {v : AV} {K : AV → Prop} [h : ConT P t] : Stp (Do (aAssert P t true (.ifc t v)) K) (K (.tuple [v, .val (.bool true)])) := ⟨fun hK => ⟨_, ⟨h.h, rfl, rfl⟩, hK⟩⟩
instance assertF {t : TypeId} {v : AV} {K : AV → Prop} [h : ConT P t] : Stp (Do (aAssert P t false (.ifc t v)) K) (K v) := ⟨fun hK => ⟨_, ⟨h.h, rfl, rfl⟩, hK⟩⟩
end Go.Ab
