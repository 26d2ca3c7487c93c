/- Steps (part 14): variables that turn no more, told as frozen memory, also within what closures hold. No program in sight. -/
import Derived.Test.YtobhbepiaibceaaSt13
set_option linter.unusedVariables false
set_option linter.unusedSimpArgs false
namespace Go.Ab
variable {P : Program}
theorem freeze_var {R : RO} {w : World} {σ1 σ2 : Store} {b : Nat} {t : TypeId} {cs : List AV} (hs : St R w (σ1 ++ .var b t cs :: σ2)) :
    ∃ R' : RO, R.le R' ∧ St R' w (σ1 ++ σ2) ∧ Ext R w (σ1 ++ .var b t cs :: σ2) R' w (σ1 ++ σ2) ∧ VR R' (.pointer (some ⟨b, 0, none⟩)) (.rptr cs) := by
  have hp := List.pairwise_append.1 hs.apart
  have hp2 := List.pairwise_cons.1 hp.2.1
  let R' : RO := fun a => if a.block = b ∧ a.spot = none then w.cell? a else R a
  have hle : R.le R' := by
    intro a x ha
    show (if _ then _ else _) = _
    split
    · exact hs.ro a x ha
    · exact ha
  have hR : ∀ a x, R' a = some x → R a = some x ∨ a.block = b := by
    intro a x ha
    by_cases h : a.block = b ∧ a.spot = none
    · exact .inr h.1
    · have : R' a = R a := if_neg h
      rw [this] at ha
      exact .inl ha
  have hmem : (Ent.var b t cs) ∈ σ1 ++ .var b t cs :: σ2 := by simp
  obtain ⟨⟨vs, h3, h4, h5⟩, h6⟩ := hs.ents _ hmem
  refine ⟨R', hle, ⟨fun a x ha => ?_, fun e he => ?_, ?_⟩, ⟨hle, rfl, rfl, rfl, Nat.le_refl _, fun _ _ _ => rfl, fun k hk => .inl ?_, fun a x ha => ?_⟩, ?_⟩
  · by_cases h : a.block = b ∧ a.spot = none
    · have : R' a = w.cell? a := if_pos h
      rw [← this]; exact ha
    · have : R' a = R a := if_neg h
      rw [this] at ha
      exact hs.ro a x ha
  · have hne : ∀ k, e.blk = some k → k ≠ b := by
      intro k hb hvb
      rcases List.mem_append.1 he with he | he
      · exact hp.2.2 e he _ (List.mem_cons_self ..) k hb (by rw [hvb]; rfl)
      · exact hp2.1 e he b rfl (hvb ▸ hb)
    have he' : e ∈ σ1 ++ .var b t cs :: σ2 := by
      rcases List.mem_append.1 he with he | he
      · exact List.mem_append.2 (.inl he)
      · exact List.mem_append.2 (.inr (List.mem_cons_of_mem _ he))
    refine (hs.ents e he').keep hle (fun _ _ => rfl) fun k hb a x ha hab => ?_
    rcases hR a x ha with h | h
    · exact h
    · exact absurd (hab ▸ h) (hne k hb)
  · refine List.pairwise_append.2 ⟨hp.1, hp2.2, fun x hx y hy => hp.2.2 x hx y (List.mem_cons_of_mem _ hy)⟩
  · rw [blks_append] at hk ⊢
    rcases List.mem_append.1 hk with hk | hk
    · exact List.mem_append.2 (.inl hk)
    · obtain ⟨e, he, hb⟩ := mem_blks.1 hk
      exact List.mem_append.2 (.inr (mem_blks.2 ⟨e, List.mem_cons_of_mem _ he, hb⟩))
  · rcases hR a x ha with h | h
    · exact .inl h
    · exact .inr (.inr (mem_blks.2 ⟨_, hmem, by rw [h]; rfl⟩))
  · refine .rptr vs h4.1 (h4.mono hle).2 fun j v hj => ?_
    have hc : R' ((⟨b, 0, none⟩ : Addr).add j) = w.cell? ((⟨b, 0, none⟩ : Addr).add j) := if_pos (by rw [addr_lit_add]; exact ⟨rfl, rfl⟩)
    rw [hc]
    rw [addr_lit_add, Nat.zero_add]
    simp [World.cell?, h3, hj]
/-- Told the same, but that a variable is frozen memory now. -/
class Fz (b : Nat) (cs : List AV) (u : AV) (u' : outParam AV) : Prop where
  fz : ∀ R v, VR R (.pointer (some ⟨b, 0, none⟩)) (.rptr cs) → VR R v u → VR R v u'
class FzL (b : Nat) (cs : List AV) (us : List AV) (us' : outParam (List AV)) : Prop where
  fz : ∀ R vs, VR R (.pointer (some ⟨b, 0, none⟩)) (.rptr cs) → VRs R vs us → VRs R vs us'
instance (priority := 10) fzSame (b : Nat) (cs : List AV) (u : AV) : Fz b cs u u := ⟨fun _ _ _ h => h⟩
instance (priority := 100) fzPtr (b : Nat) (cs : List AV) : Fz b cs (.val (.pointer (some ⟨b, 0, none⟩))) (.rptr cs) := ⟨fun R v h hv => by rw [hv.val_inv]; exact h⟩
instance (b : Nat) (cs : List AV) : FzL b cs [] [] := ⟨fun _ _ _ h => h⟩
instance (b : Nat) (cs : List AV) (u u' : AV) (us us' : List AV) [h : Fz b cs u u'] [k : FzL b cs us us'] : FzL b cs (u :: us) (u' :: us') := ⟨fun R vs hp hv => by
  obtain ⟨hl, hr⟩ := hv
  match vs, hl with
  | v :: vs, hl =>
    exact VRs.cons (h.fz R v hp (hr 0 u v rfl rfl)) (k.fz R vs hp ⟨by simpa using hl, fun j x y hx hy => hr (j + 1) x y (by simpa using hx) (by simpa using hy)⟩)⟩
instance (priority := 90) fzFn (b : Nat) (cs : List AV) (f : Fn) (us us' ws ws' : List AV) [h : FzL b cs us us'] [k : FzL b cs ws ws'] : Fz b cs (.fn f us ws) (.fn f us' ws') := ⟨fun R v hp hv => by
  cases hv with
  | fn hl hv hl' hv' =>
    have h1 := h.fz R _ hp ⟨hl, hv⟩
    have h2 := k.fz R _ hp ⟨hl', hv'⟩
    exact .fn h1.1 h1.2 h2.1 h2.2⟩
/-- A variable that nobody writes any more. -/
theorem Sub.frzV {b : Nat} {t : TypeId} {cs : List AV} {σ1 σ2 : Store} {us us' : List AV} [h : FzL b cs us us'] : Sub (σ1 ++ .var b t cs :: σ2) us (σ1 ++ σ2) us' := by
  intro R w vs hv hs
  obtain ⟨R', h1, h2, h3, h4⟩ := freeze_var hs
  exact ⟨R', h.fz R' vs h4 (hv.mono h1), h2, h3⟩
theorem Sub.frzVar {b : Nat} {t : TypeId} {cs : List AV} {σ rest : Store} {put : Ent → Store} {us us' : List AV} [hv : VarAt b σ t cs put rest] [h : FzL b cs us us'] : Sub σ us rest us' := by
  obtain ⟨σ1, σ2, e, _, e2⟩ := hv.at_
  rw [e, e2]
  exact Sub.frzV
/-- A call, its arguments told in other words. -/
theorem callBy {f : FuncId} {args args' : List AV} {σ σ' : Store} {k kp : AV → Store → Prop} {pre : Prop} {β : Type} {c : β → Prop} {r : β → AV} {s : β → Store} (hs : Sub σ args σ' args') [h : EQ P f args' σ' pre β c r s] (hp : pre) (hk : ∀ y, c y → k (r y) (s y)) : aCall P f args σ k kp :=
  Or.inl ⟨σ', args', hs, (h.ct hp).mono fun x τ ⟨y, e0, e1, e2⟩ => by rw [e1, e2]; exact hk y e0⟩
theorem callByP {f : FuncId} {args args' : List AV} {σ σ' : Store} {k kp : AV → Store → Prop} {pre : Prop} {u : AV} (hs : Sub σ args σ' args') [h : PC P f args' pre u] (hp : pre) (hk : k u σ') : aCall P f args σ k kp := by
  obtain ⟨args1, h1, h2⟩ := h.ct hp
  exact Or.inl ⟨σ', args1, hs.trans (Sub.vals h1), (h2.frame σ').mono fun x τ ⟨σ1, e1, _, e2, e3⟩ => by rw [e2, e1, e3]; exact hk⟩
end Go.Ab
