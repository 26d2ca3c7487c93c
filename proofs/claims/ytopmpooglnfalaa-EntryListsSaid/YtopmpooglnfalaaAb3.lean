/- A logic over abstract states (part 3): code, loops, functions. -/
import Derived.Test.YtopmpooglnfalaaAb2
set_option linter.unusedVariables false
set_option linter.unusedSimpArgs false
namespace Go.Ab

/-- What a proof's printer says beside the code: for each loop (by the first region's number in its body) the slots that live on from round to round; likewise where ways meet (by the first region behind). -/
structure Ann where
  lp : Nat → List Nat
  jn : Nat → Option (List Nat)
  /-- likewise where the orders of a drawn region meet (by its number) -/
  rj : Nat → Option (List Nat)

def firstRegion : Code → Nat
  | .region id _ _ => id
  | .seq a b => match firstRegion a with
    | 1000000 => firstRegion b
    | n => n
  | .cond _ a b => match firstRegion a with
    | 1000000 => firstRegion b
    | n => n
  | .block _ a => firstRegion a
  | .loop a => firstRegion a
  | .scope a => firstRegion a
  | _ => 1000000

def ixL : List Nat → Nat → Nat
  | [], _ => 0
  | i :: L, t => bif Nat.beq t i then 0 else ixL L t + 1
def mkFr (L : List Nat) (vs : List AV) : Fr := fun t => vs.getD (ixL L t) .undef
theorem mkFr_map (L : List Nat) (fr : Fr) (t : Nat) : mkFr L (L.map fr) t = fr t ∨ mkFr L (L.map fr) t = .undef := by
  unfold mkFr
  induction L with
  | nil => exact .inr rfl
  | cons i L ih =>
    unfold ixL
    cases hb : Nat.beq t i with
    | true =>
      left
      have : t = i := Nat.eq_of_beq_eq_true hb
      subst this
      simp
    | false => simpa using ih
theorem ActR.forget {R : RO} {N : Nat} {D : List Deferred} {a : Act} {fr : Fr} (h : ActR R N D a fr) (L : List Nat) : ActR R N D a (mkFr L (L.map fr)) := by
  refine ⟨h.size, h.defers, fun t => ?_⟩
  rcases mkFr_map L fr t with e | e
  · rw [e]; exact h.tmps t
  · rw [e]; exact .undef _

theorem ixL_get : ∀ (L : List Nat) (t : Nat), ixL L t < L.length → L[ixL L t]? = some t
  | [], t, h => by simp at h
  | i :: L, t, h => by
    unfold ixL at h ⊢
    cases hb : Nat.beq t i with
    | true => simp [Nat.eq_of_beq_eq_true hb]
    | false =>
      rw [hb] at h
      simp only [cond_false, List.length_cons, Nat.add_lt_add_iff_right, List.getElem?_cons_succ] at h ⊢
      exact ixL_get L t h
theorem ActR.sub {R : RO} {N : Nat} {D : List Deferred} {a : Act} {fr : Fr} {w : World} {σ τ : Store} {vs : List AV} (h : ActR R N D a fr) (hs : St R w σ) (L : List Nat) (hsub : Sub σ (L.map fr) τ vs) :
    ∃ R', ActR R' N D a (mkFr L vs) ∧ St R' w τ ∧ Ext R w σ R' w τ := by
  have hv : VRs R (L.map fun t => a.tmps.getD t Go.undef) (L.map fr) := by
    refine ⟨by simp, fun j u v hu hv => ?_⟩
    rw [List.getElem?_map] at hu hv
    cases hL : L[j]? with
    | none => rw [hL] at hu; cases hu
    | some t =>
      rw [hL] at hu hv
      simp only [Option.map_some, Option.some.injEq] at hu hv
      rw [← hu, ← hv]
      exact h.tmps t
  obtain ⟨R', h1, h2, h3⟩ := hsub R w _ hv hs
  refine ⟨R', ⟨h.size, h.defers, fun t => ?_⟩, h2, h3⟩
  unfold mkFr
  rcases Nat.lt_or_ge (ixL L t) L.length with hlt | hge
  · have hg := ixL_get L t hlt
    have hlen : vs.length = L.length := by rw [← h1.1]; simp
    have hx : vs[ixL L t]? = some (vs.getD (ixL L t) .undef) := by
      rw [List.getD_eq_getElem?_getD, List.getElem?_eq_getElem (by omega)]; rfl
    exact h1.2 _ _ _ hx (by rw [List.getElem?_map, hg]; rfl)
  · have hlen : vs.length = L.length := by rw [← h1.1]; simp
    rw [List.getD_eq_getElem?_getD, List.getElem?_eq_none (by omega)]
    exact .undef _
/-- A test. -/
def aCond (c : AV) (x y : Prop) : Prop := match c with
  | .val (.bool b) => if b = true then x else y
  | _ => False
/-- Where ways meet. -/
def aJoin (x : (List AV → Store → Prop) → Prop) (y : List AV → Store → Prop) : Prop := ∃ J : List AV → Store → Prop, x (fun vs σ => ∃ vs' τ, Sub σ vs τ vs' ∧ J vs' τ) ∧ ∀ vs σ, J vs σ → y vs σ
/-- What is left of a store when some of it is forgotten. -/
def Less (τ σ : Store) : Prop := (∀ R w, St R w σ → St R w τ) ∧ ∀ b ∈ blks τ, b ∈ blks σ
theorem Less.refl (σ : Store) : Less σ σ := ⟨fun _ _ h => h, fun _ h => h⟩
theorem Less.sub {τ σ : Store} (h : τ.Sublist σ) : Less τ σ := ⟨fun _ _ hs => hs.sub h, fun b hb => by
  obtain ⟨e, he, hb⟩ := mem_blks.1 hb
  exact mem_blks.2 ⟨e, h.subset he, hb⟩⟩
theorem Less.perm {τ σ : Store} (h : σ.Perm τ) : Less τ σ := ⟨fun _ _ hs => hs.perm h, fun b hb => (h.filterMap Ent.blk).mem_iff.2 hb⟩
theorem Less.trans {τ σ ρ : Store} (h : Less τ σ) (k : Less σ ρ) : Less τ ρ := ⟨fun R w hs => h.1 R w (k.1 R w hs), fun b hb => k.2 b (h.2 b hb)⟩
theorem Less.ext {R : RO} {w : World} {τ σ : Store} (h : Less τ σ) : Ext R w σ R w τ :=
  ⟨fun _ _ h => h, rfl, rfl, rfl, Nat.le_refl _, fun _ _ _ => rfl, fun k hk => .inl (h.2 k hk), fun _ _ h => .inl h⟩
/-- A loop: an invariant, with a number that falls. -/
def aLoop (body : (List AV → Store → Prop) → List AV → Store → Prop) (vals : List AV) (σ : Store) : Prop :=
  ∃ I : Nat → List AV → Store → Prop, (∃ n vs τ, Sub σ vals τ vs ∧ I n vs τ) ∧ ∀ n vs τ, I n vs τ → body (fun vs' σ' => ∃ m vs'' τ', m < n ∧ Sub σ' vs' τ' vs'' ∧ I m vs'' τ') vs τ

def thenX (k : Fr → Store → Prop) (K : AX → Fr → Store → Prop) : AX → Fr → Store → Prop
  | .norm, fr, σ => k fr σ
  | x, fr, σ => K x fr σ
def inBlockX (id : Nat) (K : AX → Fr → Store → Prop) : AX → Fr → Store → Prop
  | .exit i, fr, σ => bif Nat.beq i id then K .norm fr σ else K (.exit i) fr σ
  | x, fr, σ => K x fr σ

variable {P : Program}

def vc (S : Sem' P) (N : Nat) (A : Ann) : Code → (AX → Fr → Store → Prop) → Fr → Store → Prop
  | .skip, K, fr, σ => K .norm fr σ
  | .label _, K, fr, σ => K .norm fr σ
  | .region _ ops false, K, fr, σ => bif ops.toList.all (opFine N ops) then vcOps1 S N ops K ops.toList fr σ else False
  | .region id ops true, K, fr, σ => bif ops.toList.all (opFine N ops) && P.follows .mixedOrders then (match A.rj id with
      | none => vcAny1 S N ops (K .norm) ops.size (Array.replicate ops.size false) fr σ
      | some L => aJoin (fun j => vcAny1 S N ops (fun fr σ => j (L.map fr) σ) ops.size (Array.replicate ops.size false) fr σ) (fun vs σ => K .norm (mkFr L vs) σ)) else False
  | .seq a b, K, fr, σ => match A.jn (firstRegion b) with
    | none => vc S N A a (thenX (vc S N A b K) K) fr σ
    | some L => aJoin (fun j => vc S N A a (thenX (fun fr σ => j (L.map fr) σ) K) fr σ) (fun vs σ => vc S N A b K (mkFr L vs) σ)
  | .cond c a b, K, fr, σ => aCond (evA fr c) (vc S N A a K fr σ) (vc S N A b K fr σ)
  | .block id a, K, fr, σ => vc S N A a (inBlockX id K) fr σ
  | .loop a, K, fr, σ => aLoop (fun cont vs σ => vc S N A a (thenX (fun fr σ => cont ((A.lp (firstRegion a)).map fr) σ) K) (mkFr (A.lp (firstRegion a)) vs) σ) ((A.lp (firstRegion a)).map fr) σ
  | .exit id, K, fr, σ => K (.exit id) fr σ
  | .ret, K, fr, σ => K .ret fr σ
  | .scope a, K, fr, σ => vc S N A a K fr σ
  | _, _, _, _ => False

theorem exists_least {p : Nat → Prop} (h : ∃ n, p n) : ∃ n, p n ∧ ∀ m, m < n → ¬ p m := by
  obtain ⟨n, hn⟩ := h
  induction n using Nat.strongRecOn with
  | _ n ih =>
    by_cases h : ∃ m, m < n ∧ p m
    · obtain ⟨m, hm, hp⟩ := h; exact ih m hm hp
    · exact ⟨n, hn, fun m hm hp => h ⟨m, hm, hp⟩⟩
noncomputable def least (p : Nat → Prop) : Nat := open Classical in if h : ∃ n, p n then (exists_least h).choose else 0
theorem least_spec {p : Nat → Prop} (h : ∃ n, p n) : p (least p) ∧ ∀ m, m < least p → ¬ p m := by
  unfold least
  rw [dif_pos h]
  exact (exists_least h).choose_spec

theorem vc_sound {S : Sem' P} {N : Nat} {A : Ann} {D : List Deferred} (c : Code) :
    ∀ {K : AX → Fr → Store → Prop} {fr : Fr} {σ : Store}, vc S N A c K fr σ → ∀ {R : RO} {w : World} {a : Act}, ActR R N D a fr → St R w σ →
    ∀ {Q : Exit → Act → World → Prop}, (∀ e a' w', Post N D R w σ K e a' w' → Q e a' w') → c.wp P Q a w := by
  induction c with
  | skip => intro K fr σ h R w a ha hs Q hQ; exact wp_skip (hQ _ _ _ ⟨.norm, fr, σ, R, trivial, h, ha, hs, Ext.refl _ _ _⟩)
  | label l => intro K fr σ h R w a ha hs Q hQ; exact wp_label (hQ _ _ _ ⟨.norm, fr, σ, R, trivial, h, ha, hs, Ext.refl _ _ _⟩)
  | exit id => intro K fr σ h R w a ha hs Q hQ; exact wp_exit (hQ _ _ _ ⟨.exit id, fr, σ, R, rfl, h, ha, hs, Ext.refl _ _ _⟩)
  | ret => intro K fr σ h R w a ha hs Q hQ; exact wp_ret (hQ _ _ _ ⟨.ret, fr, σ, R, trivial, h, ha, hs, Ext.refl _ _ _⟩)
  | region id ops draw =>
    intro K fr σ h R w a ha hs Q hQ
    cases draw with
    | false =>
      unfold vc at h
      cases hf : ops.toList.all (opFine N ops) with
      | false => rw [hf] at h; exact h.elim
      | true =>
        rw [hf] at h
        exact wp_region_list (vcOps_sound ops.toList (fun o ho => List.all_eq_true.1 hf o ho) (vcOps1_vcOps _ _ _ h) ha hs hQ)
    | true =>
      unfold vc at h
      cases hf : (ops.toList.all (opFine N ops) && P.follows .mixedOrders) with
      | false => rw [hf] at h; exact h.elim
      | true =>
        rw [hf] at h
        simp only [Bool.and_eq_true] at hf
        refine wp_region_any hf.2 ?_
        have hs' : St R { w with drawn := w.drawn + 1 } σ := by
          refine ⟨hs.ro, fun e he => ?_, hs.apart⟩
          exact (hs.ents e he).keep (fun _ _ h => h) (fun _ _ => rfl) (fun _ _ _ _ h _ => h)
        have hx : Ext R w σ R { w with drawn := w.drawn + 1 } σ := ⟨fun _ _ h => h, rfl, rfl, rfl, Nat.le_refl _, fun _ _ _ => rfl, fun _ h => .inl h, fun _ _ h => .inl h⟩
        have hlen : (open_ ops (Array.replicate ops.size false)).length ≤ ops.size := Nat.le_trans (List.length_filter_le _ _) (by simp)
        have hof : ∀ (i : Nat) (o : Oper), ops[i]? = some o → opFine N ops o = true := fun i o ho => List.all_eq_true.1 hf.1 o (Array.mem_toList_iff.2 (Array.mem_of_getElem? ho))
        cases hj : A.rj id with
        | none =>
          rw [hj] at h
          exact vcAny_sound hof ops.size hlen (vcAny1_vcAny _ _ _ _ h) ha hs' fun e a' w' hp => hQ _ _ _ (hp.trans hx)
        | some L =>
          rw [hj] at h
          obtain ⟨J, h, hJ⟩ := h
          refine vcAny_sound (K := fun x fr σ => match x with | .norm => ∃ vs' τ, Sub σ (L.map fr) τ vs' ∧ J vs' τ | _ => False) hof ops.size hlen (vcAny1_vcAny _ _ _ _ h) ha hs' ?_
          rintro e a' w' ⟨ax, fr', σ', R', h1, h2, h3, h4, h5⟩
          cases ax with
          | norm =>
            obtain ⟨vs', τ, hsub, h2⟩ := h2
            obtain ⟨R2, g1, g2, g3⟩ := h3.sub h4 L hsub
            cases e with
            | normal => exact hQ _ _ _ ⟨.norm, _, τ, R2, trivial, hJ _ _ h2, g1, g2, (hx.trans h5).trans g3⟩
            | _ => exact h1.elim
          | _ => exact h2.elim
  | seq x y ihx ihy =>
    intro K fr σ h R w a ha hs Q hQ
    unfold vc at h
    have go : ∀ (k : Fr → Store → Prop), (∀ fr σ, k fr σ → ∀ {R : RO} {w : World} {a : Act}, ActR R N D a fr → St R w σ → ∀ {Q : Exit → Act → World → Prop}, (∀ e a' w', Post N D R w σ K e a' w' → Q e a' w') → y.wp P Q a w) →
        vc S N A x (thenX k K) fr σ → (Code.seq x y).wp P Q a w := by
      intro k hk hv
      refine wp_seq (ihx hv ha hs ?_)
      rintro e a' w' ⟨ax, fr', σ', R', h1, h2, h3, h4, h5⟩
      cases e with
      | normal =>
        cases ax with
        | norm => exact hk fr' σ' h2 h3 h4 fun e a'' w'' hp => hQ _ _ _ (hp.trans h5)
        | _ => exact h1.elim
      | exit i =>
        cases ax with
        | exit j => exact hQ _ _ _ ⟨.exit j, fr', σ', R', h1, h2, h3, h4, h5⟩
        | _ => exact h1.elim
      | goto l => cases ax <;> exact h1.elim
      | ret =>
        cases ax with
        | ret => exact hQ _ _ _ ⟨.ret, fr', σ', R', h1, h2, h3, h4, h5⟩
        | _ => exact h1.elim
      | panic ch =>
        cases ax with
        | pan u => exact hQ _ _ _ ⟨.pan u, fr', σ', R', h1, h2, h3, h4, h5⟩
        | _ => exact h1.elim
      | outgrown => cases ax <;> exact h1.elim
    cases hj : A.jn (firstRegion y) with
    | none =>
      rw [hj] at h
      exact go _ (fun fr σ hk _ _ _ ha hs _ hQ => ihy hk ha hs hQ) h
    | some L =>
      rw [hj] at h
      obtain ⟨J, h, hJ⟩ := h
      exact go _ (fun fr σ hk _ _ _ ha hs _ hQ => by
        obtain ⟨vs', τ, hsub, hk⟩ := hk
        obtain ⟨R2, g1, g2, g3⟩ := ha.sub hs L hsub
        exact ihy (hJ _ _ hk) g1 g2 fun e a' w' hp => hQ _ _ _ (hp.trans g3)) h
  | cond c x y ihx ihy =>
    intro K fr σ h R w a ha hs Q hQ
    unfold vc aCond at h
    have hv := ha.eval c
    split at h
    · rename_i b hb
      rw [hb] at hv
      refine wp_cond hv.val_inv ?_
      cases b with
      | true => exact ihx h ha hs hQ
      | false => exact ihy (by simpa using h) ha hs hQ
    · exact h.elim
  | block id x ih =>
    intro K fr σ h R w a ha hs Q hQ
    unfold vc at h
    refine wp_block (ih h ha hs ?_)
    rintro e a' w' ⟨ax, fr', σ', R', h1, h2, h3, h4, h5⟩
    cases e with
    | normal =>
      cases ax with
      | norm => exact hQ _ _ _ ⟨.norm, fr', σ', R', h1, h2, h3, h4, h5⟩
      | _ => exact h1.elim
    | exit i =>
      cases ax with
      | exit j =>
        cases h1
        simp only [inBlockX] at h2
        simp only [Exit.inBlock]
        by_cases he : i = id
        · subst he
          rw [if_pos rfl]
          have hb : Nat.beq i i = true := Nat.beq_refl i
          rw [hb] at h2
          exact hQ _ _ _ ⟨.norm, fr', σ', R', trivial, h2, h3, h4, h5⟩
        · rw [if_neg he]
          have hb : Nat.beq i id = false := by
            cases hb : Nat.beq i id with
            | false => rfl
            | true => exact absurd (Nat.eq_of_beq_eq_true hb) he
          rw [hb] at h2
          exact hQ _ _ _ ⟨.exit i, fr', σ', R', rfl, h2, h3, h4, h5⟩
      | _ => exact h1.elim
    | goto l => cases ax <;> exact h1.elim
    | ret =>
      cases ax with
      | ret => exact hQ _ _ _ ⟨.ret, fr', σ', R', h1, h2, h3, h4, h5⟩
      | _ => exact h1.elim
    | panic ch =>
      cases ax with
      | pan u => exact hQ _ _ _ ⟨.pan u, fr', σ', R', h1, h2, h3, h4, h5⟩
      | _ => exact h1.elim
    | outgrown => cases ax <;> exact h1.elim
  | scope x ih =>
    intro K fr σ h R w a ha hs Q hQ
    unfold vc at h
    refine wp_scope_straight (ih h ha hs ?_)
    rintro e a' w' ⟨ax, fr', σ', R', h1, h2, h3, h4, h5⟩
    have hq := hQ e a' w' ⟨ax, fr', σ', R', h1, h2, h3, h4, h5⟩
    cases e with
    | goto l => cases ax <;> exact h1.elim
    | _ => exact hq
  | loop x ih =>
    intro K fr σ h R0 w0 a0 ha0 hs0 Q hQ
    unfold vc aLoop at h
    obtain ⟨I, ⟨n0, vs0, τ0, hl0, hI0⟩, hround⟩ := h
    obtain ⟨Rs, k1, k2, k3⟩ := ha0.sub hs0 _ hl0
    let L := A.lp (firstRegion x)
    let Inv : Nat → Act → World → Prop := fun n a w => ∃ vs τ R, I n vs τ ∧ ActR R N D a (mkFr L vs) ∧ St R w τ ∧ Ext R0 w0 σ R w τ
    refine wp_loop (fun a w => ∃ n, Inv n a w) (fun a w => least fun n => Inv n a w) ⟨n0, _, τ0, Rs, hI0, k1, k2, k3⟩ ?_
    intro a w hex
    obtain ⟨⟨vs, τ, R, hI, ha, hs, hx⟩, _⟩ := least_spec hex
    refine ih (hround _ vs τ hI) ha hs ?_
    rintro e a' w' ⟨ax, fr', σ', R', h1, h2, h3, h4, h5⟩
    cases e with
    | normal =>
      cases ax with
      | norm =>
        obtain ⟨m, vs'', τ', hm, hl, hI'⟩ := h2
        obtain ⟨R2, g1, g2, g3⟩ := h3.sub h4 _ hl
        have hinv : Inv m a' w' := ⟨_, τ', R2, hI', g1, g2, (hx.trans h5).trans g3⟩
        refine ⟨⟨m, hinv⟩, ?_⟩
        have hex' : ∃ n, Inv n a' w' := ⟨m, hinv⟩
        have hle : least (fun n => Inv n a' w') ≤ m := by
          rcases Nat.lt_or_ge m (least fun n => Inv n a' w') with hlt | hge
          · exact absurd hinv ((least_spec hex').2 m hlt)
          · exact hge
        exact Nat.lt_of_le_of_lt hle hm
      | _ => exact h1.elim
    | exit i =>
      cases ax with
      | exit j => exact hQ _ _ _ ⟨.exit j, fr', σ', R', h1, h2, h3, h4, hx.trans h5⟩
      | _ => exact h1.elim
    | goto l => cases ax <;> exact h1.elim
    | ret =>
      cases ax with
      | ret => exact hQ _ _ _ ⟨.ret, fr', σ', R', h1, h2, h3, h4, hx.trans h5⟩
      | _ => exact h1.elim
    | panic ch =>
      cases ax with
      | pan u => exact hQ _ _ _ ⟨.pan u, fr', σ', R', h1, h2, h3, h4, hx.trans h5⟩
      | _ => exact h1.elim
    | outgrown => cases ax <;> exact h1.elim
  | _ => intro K fr σ h; exact h.elim

/-! ### A function -/
def argFr (args : List AV) : Fr := fun j => args.getD j .undef

theorem calls_args {R : RO} {vs : List Value} {args : List AV} (h : VRs R vs args) (n : Nat) (hn : args.length ≤ n) :
    ActR R n [] { tmps := vs.toArray ++ Array.replicate (n - vs.toArray.size) Go.undef, defers := [] } (argFr args) := by
  refine ⟨by simp; have := h.1; omega, rfl, fun t => ?_⟩
  rcases Nat.lt_or_ge t args.length with ht | ht
  · obtain ⟨v, hv, hr⟩ := h.get (List.getElem?_eq_getElem ht)
    have ht' : t < vs.length := (List.getElem?_eq_some_iff.1 hv).1
    have e1 : argFr args t = args[t] := by simp [argFr, List.getD_eq_getElem?_getD, List.getElem?_eq_getElem ht]
    have e2 : (vs.toArray ++ Array.replicate (n - vs.toArray.size) Go.undef).getD t Go.undef = v := by
      rw [Array.getD_eq_getD_getElem?, Array.getElem?_append_left (by simpa using ht'), List.getElem?_toArray, hv]
      rfl
    show VR R ((vs.toArray ++ Array.replicate (n - vs.toArray.size) Go.undef).getD t Go.undef) _
    rw [e1, e2]
    exact hr
  · have e1 : argFr args t = .undef := by simp [argFr, List.getD_eq_getElem?_getD, List.getElem?_eq_none ht]
    rw [e1]
    exact .undef _

/-- What a function hands back: its results' slots. -/
def resTmps : List ResultVar → Option (List Nat)
  | [] => some []
  | .tmp t :: rs => (resTmps rs).map (t :: ·)
  | _ :: _ => none
def resA (l : List Nat) (fr : Fr) : AV := match l with
  | [t] => fr t
  | l => .tuple (l.map fr)

theorem results_run {P : Program} {fn : Func} {l : List Nat} (h : resTmps fn.results.toList = some l) (tmps : Array Value) (w : World) :
    (results fn tmps).run P w = .ok (match l with | [t] => tmps.getD t Go.undef | l => .tuple (l.map fun t => tmps.getD t Go.undef).toArray) w := by
  have key : ∀ (g : ResultVar → Sem Value) (f : Nat → Value), (∀ t, g (.tmp t) = pure (f t)) → ∀ (rs : List ResultVar) (l : List Nat), resTmps rs = some l → (rs.mapM g).run P w = .ok (l.map f) w := by
    intro g f hg rs
    induction rs with
    | nil => intro l hl; simp [resTmps] at hl; subst hl; simp
    | cons r rs ih =>
      intro l hl
      cases r with
      | cell a t => simp [resTmps] at hl
      | tmp t =>
        simp only [resTmps, Option.map_eq_some_iff] at hl
        obtain ⟨l', hl', rfl⟩ := hl
        simp only [List.mapM_cons, hg, Sem.run_bind, Sem.run_pure, Result.andThen_ok, ih l' hl', List.map_cons]
  unfold results
  rw [Array.mapM_eq_mapM_toList]
  simp only [Sem.run_bind, Sem.run_map]
  rw [key _ (fun t => tmps.getD t Go.undef) (fun t => rfl) _ _ h]
  simp only [Result.andThen_ok, Sem.run_pure]
  congr 1
  cases l with
  | nil => simp
  | cons t l =>
    cases l with
    | nil => simp
    | cons u l => simp

theorem acalls_of_vc {S : Sem' P} {A : Ann} {f : FuncId} {fn : Func} {c : Code} {args : List AV} {σ : Store} {Q : AEnd → Store → Prop} {l : List Nat}
    (hf : P.funcs[f]? = some fn) (hb : fn.body = some c) (hn : (fn.name == "runtime.NumGoroutine") = false) (hN : args.length ≤ fn.ntmps) (hr : resTmps fn.results.toList = some l)
    (h : vc S fn.ntmps A c (fun x fr σ => match x with | .norm => Q (.ret (resA l fr)) σ | .ret => Q (.ret (resA l fr)) σ | .pan u => Q (.pan u) σ | .exit _ => False) (argFr args) σ) : ACalls P f args σ Q := by
  refine ⟨⟨fn, c, hf, hb, hn⟩, fun R w vs hv hs => calls_of_wp hf hb ?_⟩
  refine vc_sound (D := []) c h (calls_args hv _ hN) hs ?_
  have fin : ∀ {a' : Act} {w' : World} {fr' : Fr} {σ' : Store} {R' : RO}, Q (.ret (resA l fr')) σ' → ActR R' fn.ntmps [] a' fr' → St R' w' σ' → Ext R w σ R' w' σ' →
      a'.defers = [] ∧ ∃ v, (results fn a'.tmps).run P w' = .ok v w' ∧ ∃ x R' σ', EndR R' (.returned v) x ∧ Q x σ' ∧ St R' w' σ' ∧ Ext R w σ R' w' σ' := by
    intro a' w' fr' σ' R' hq ha hs hx
    refine ⟨ha.defers, _, results_run hr _ _, .ret (resA l fr'), R', σ', ?_, hq, hs, hx⟩
    show VR R' _ _
    have gen : VR R' (.tuple (l.map fun t => a'.tmps.getD t Go.undef).toArray) (.tuple (l.map fr')) := by
      refine VR.tuple' ⟨by simp, fun j u v hu hv => ?_⟩
      simp only [List.getElem?_map, Option.map_eq_some_iff] at hu hv
      obtain ⟨t, ht, rfl⟩ := hu
      obtain ⟨t', ht', rfl⟩ := hv
      rw [ht] at ht'
      cases ht'
      exact ha.tmps t
    cases l with
    | nil => exact gen
    | cons t l =>
      cases l with
      | nil => exact ha.tmps t
      | cons u l => exact gen
  rintro e a' w' ⟨x, fr', σ', R', h1, h2, h3, h4, h5⟩
  cases e with
  | normal =>
    cases x with
    | norm => exact fin h2 h3 h4 h5
    | _ => exact h1.elim
  | ret =>
    cases x with
    | ret => exact fin h2 h3 h4 h5
    | _ => exact h1.elim
  | panic ch =>
    cases x with
    | pan u => exact ⟨h3.defers, .pan u, R', σ', h1, h2, h4, h5⟩
    | _ => exact h1.elim
  | exit i =>
    cases x with
    | exit j => exact h2.elim
    | _ => exact h1.elim
  | goto i => cases x <;> exact h1.elim
  | outgrown => cases x <;> exact h1.elim

end Go.Ab
