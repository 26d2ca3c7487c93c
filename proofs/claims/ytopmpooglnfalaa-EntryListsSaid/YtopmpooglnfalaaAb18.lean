/- A logic over abstract states (part 18): a growable row told as memory that turns no more; variables, step by step. -/
import Derived.Test.YtopmpooglnfalaaAb16
set_option linter.unusedVariables false
set_option linter.unusedSimpArgs false
namespace Go.Ab
variable {P : Program}

theorem freeze_row {R : RO} {w : World} {σ1 σ2 : Store} {v : Value} {E : TypeId} {sz : Nat} {l : List AV} {fl : Nat} (hs : St R w (σ1 ++ .row v E sz l fl :: σ2)) :
    ∃ R' : RO, R.le R' ∧ St R' w (σ1 ++ σ2) ∧ Ext R w (σ1 ++ .row v E sz l fl :: σ2) R' w (σ1 ++ σ2) ∧ VR R' v (.lst sz l .ro) := by
  have hp := List.pairwise_append.1 hs.apart
  have hp2 := List.pairwise_cons.1 hp.2.1
  let R' : RO := fun a => if v.ownBlock = some a.block ∧ a.off < l.length * sz ∧ a.spot = none then w.cell? a else R a
  have hle : R.le R' := by
    intro a x ha
    show (if _ then _ else _) = _
    split
    · exact hs.ro a x ha
    · exact ha
  have hR : ∀ a x, R' a = some x → R a = some x ∨ v.ownBlock = some a.block := by
    intro a x ha
    by_cases h : v.ownBlock = some a.block ∧ a.off < l.length * sz ∧ a.spot = none
    · exact .inr h.1
    · have : R' a = R a := if_neg h
      rw [this] at ha
      exact .inl ha
  have hmem : (Ent.row v E sz l fl) ∈ σ1 ++ .row v E sz l fl :: σ2 := by simp
  refine ⟨R', hle, ⟨fun a x ha => ?_, fun e he => ?_, ?_⟩, ⟨hle, rfl, rfl, rfl, Nat.le_refl _, fun _ _ _ => rfl, fun k hk => .inl ?_, fun a x ha => ?_⟩, ?_⟩
  · by_cases h : v.ownBlock = some a.block ∧ a.off < l.length * sz ∧ a.spot = none
    · have : R' a = w.cell? a := if_pos h
      rw [← this]; exact ha
    · have : R' a = R a := if_neg h
      rw [this] at ha
      exact hs.ro a x ha
  · have hne : ∀ b, e.blk = some b → v.ownBlock ≠ some b := by
      intro b hb hvb
      rcases List.mem_append.1 he with he | he
      · exact hp.2.2 e he _ (List.mem_cons_self ..) b hb hvb
      · exact hp2.1 e he b hvb hb
    have he' : e ∈ σ1 ++ .row v E sz l fl :: σ2 := by
      rcases List.mem_append.1 he with he | he
      · exact List.mem_append.2 (.inl he)
      · exact List.mem_append.2 (.inr (List.mem_cons_of_mem _ he))
    refine (hs.ents e he').keep hle (fun _ _ => rfl) fun b hb a x ha hab => ?_
    rcases hR a x ha with h | h
    · exact h
    · exact absurd (hab ▸ h) (hne b hb)
  · refine List.pairwise_append.2 ⟨hp.1, hp2.2, fun x hx y hy => hp.2.2 x hx y (List.mem_cons_of_mem _ hy)⟩
  · rw [blks_append] at hk ⊢
    rcases List.mem_append.1 hk with hk | hk
    · exact List.mem_append.2 (.inl hk)
    · obtain ⟨e, he, hb⟩ := mem_blks.1 hk
      exact List.mem_append.2 (.inr (mem_blks.2 ⟨e, List.mem_cons_of_mem _ he, hb⟩))
  · rcases hR a x ha with h | h
    · exact .inl h
    · exact .inr (.inr (mem_blks.2 ⟨_, hmem, h⟩))
  · obtain ⟨h1, h2, ⟨vs, h3, h4, h5⟩, h6, h7⟩ := hs.ents _ hmem
    obtain ⟨hlen, hrow⟩ := h3
    have hcell : ∀ g n cap, v = .slice (some ⟨g, 0, none⟩) n cap → ∀ (j : Nat) (x : Value), vs[j]? = some x → R' ((⟨g, 0, none⟩ : Addr).add j) = some x := by
      intro g n cap hv j x hj
      have hc := World.ownsRow.cells (w := w) (v := v) (show w.ownsRow 0 E sz v l.length vs from ⟨hlen, hrow⟩) (g := g) (by rw [hv]; rfl) j x hj
      have hjl : j < vs.length := (List.getElem?_eq_some_iff.1 hj).1
      have : R' ((⟨g, 0, none⟩ : Addr).add j) = w.cell? ((⟨g, 0, none⟩ : Addr).add j) := if_pos (by
        rw [addr_lit_add, Nat.zero_add]
        refine ⟨by rw [hv]; rfl, ?_, rfl⟩
        show j < _
        rw [← hlen]; exact hjl)
      rw [this]; exact hc
    rcases hrow with ⟨hv, hn⟩ | ⟨g, cap, cur, hv, hb, hg, hcap, hmax, r⟩
    · have hl : l = [] := List.eq_nil_of_length_eq_zero hn
      subst hl
      rw [hv]
      refine .lst vs rfl h1 h2 h4.1 (h4.mono hle).2 (by simp) (by simp [SMok]) (Nat.zero_le _) h5
    · rw [hv]
      exact .lst vs rfl h1 h2 h4.1 (h4.mono hle).2 (fun _ => ⟨_, rfl, hcell g _ _ hv⟩) hcap h6 h5

/-- Row v is told as L. -/
def Frzs (v : Value) (L : AV) : List AV → List AV → Prop
  | [], [] => True
  | u :: us, u' :: us' => (u' = u ∨ (∃ n, u = .own v n) ∧ u' = L) ∧ Frzs v L us us'
  | _, _ => False
theorem Frzs.rel {R R' : RO} (hle : R.le R') {v : Value} {L : AV} (hL : VR R' v L) : ∀ {us us' : List AV} {vs : List Value}, Frzs v L us us' → VRs R vs us → VRs R' vs us'
  | [], [], vs, _, h => h.mono hle
  | u :: us, u' :: us', vs, hf, h => by
    cases vs with
    | nil => have := h.1; simp at this
    | cons x xs =>
      have h1 := h.2 0 u x rfl rfl
      have h2 : VRs R xs us := ⟨by have := h.1; simpa using this, fun j y z hy hz => h.2 (j + 1) y z hy hz⟩
      refine VRs.cons ?_ (Frzs.rel hle hL hf.2 h2)
      rcases hf.1 with rfl | ⟨⟨n, rfl⟩, rfl⟩
      · exact h1.mono hle
      · rw [h1.own_inv.1]; exact hL
theorem Sub.freeze {σ1 σ2 : Store} {v : Value} {E : TypeId} {sz : Nat} {l : List AV} {fl : Nat} {args args' : List AV} (h : Frzs v (.lst sz l .ro) args args') : Sub (σ1 ++ .row v E sz l fl :: σ2) args (σ1 ++ σ2) args' := by
  intro R w vs hv hs
  obtain ⟨R', h1, h2, h3, h4⟩ := freeze_row hs
  exact ⟨R', h.rel h1 h4 hv, h2, h3⟩
theorem Sub.freeze0 {σ : Store} {v : Value} {E : TypeId} {sz : Nat} {l : List AV} {fl : Nat} {args args' : List AV} (h : Frzs v (.lst sz l .ro) args args') : Sub (.row v E sz l fl :: σ) args σ args' := Sub.freeze (σ1 := []) h
theorem Sub.vals {σ : Store} {args args' : List AV} (h : SubVs args args') : Sub σ args σ args' := fun R w vs hv hs => ⟨R, h.rel hv, hs, Ext.refl _ _ _⟩
theorem Sub.tuple {σ σ1 : Store} {us us1 : List AV} (h : Sub σ us σ1 us1) : Sub σ [.tuple us] σ1 [.tuple us1] := by
  intro R w vs hv hs
  obtain ⟨v, hv0, hr⟩ := hv.get (j := 0) rfl
  obtain ⟨xs, rfl, hx⟩ := hr.tuple_inv
  obtain ⟨R', h1, h2, h3⟩ := h R w xs hx hs
  refine ⟨R', ?_, h2, h3⟩
  have hl := hv.1
  cases vs with
  | nil => simp at hl
  | cons y ys =>
    cases ys with
    | cons _ _ => simp at hl
    | nil =>
      simp only [List.getElem?_cons_zero, Option.some.injEq] at hv0
      rw [hv0]
      exact VRs.cons (VR.tuple' h1) (VRs.nil R')

/-- What a call hands back, told in other words. -/
theorem ACalls.sub {f : FuncId} {args : List AV} {σ : Store} {Q Q' : AEnd → Store → Prop} (h : ACalls P f args σ Q) (hq : ∀ x σ', Q x σ' → ∃ u u1 σ1, x = .ret u ∧ Sub σ' [u] σ1 [u1] ∧ Q' (.ret u1) σ1) : ACalls P f args σ Q' := by
  refine ⟨h.1, fun R w vs hv hs => (h.2 R w vs hv hs).mono ?_⟩
  rintro e w' ⟨x, R', σ', h1, h2, h3, h4⟩
  obtain ⟨u, u1, σ1, rfl, hsub, hq'⟩ := hq x σ' h2
  cases e with
  | returned v =>
    obtain ⟨R1, g1, g2, g3⟩ := hsub R' w' [v] (VRs.cons h1 (VRs.nil R')) h3
    exact ⟨.ret u1, R1, σ1, g1.2 0 _ _ rfl rfl, hq', g2, h4.trans g3⟩
  | panicked chain => exact h1.elim
  | outgrown => exact h1.elim
/-- A row that is handed back and that nobody writes any more. -/
theorem RetF {f : FuncId} {args : List AV} {τ : Store} {E : TypeId} {sz : Nat} {l : List AV} {n : Nat} (h : ACalls P f args τ fun x σ' => ∃ v fl, x = .ret (.own v n) ∧ σ' = .row v E sz l fl :: τ) : ACalls P f args τ fun x σ' => x = .ret (.lst sz l .ro) ∧ σ' = τ :=
  h.sub fun x σ' ⟨v, fl, hx, hσ⟩ => ⟨_, _, _, hx, by rw [hσ]; exact Sub.freeze0 (args' := [.lst sz l .ro]) ⟨.inr ⟨⟨_, rfl⟩, rfl⟩, trivial⟩, rfl, rfl⟩

/-! ### Variables -/
theorem s_new {t : TypeId} {cs : List AV} {σ : Store} {k : AV → Store → Prop} (h1 : ∀ c ∈ cs, c.one = true) (hk : ∀ b, b ∉ blks σ → k (ptrTo b) (.var b t cs :: σ)) : aNewVar t cs σ k := ⟨h1, hk⟩
theorem s_ldV {ag : Bool} {s b off : Nat} {t : TypeId} {cs : List AV} {σ : Store} {K : AV → Prop} (hm : Ent.var b t cs ∈ σ) (hs : 0 < s) (ha : ag = false → s = 1) (hl : off + s ≤ cs.length) (hK : K (mkV ag ((cs.drop off).take s))) : ∃ u, loadA ag s (.val (.pointer (some ⟨b, off, none⟩))) σ u ∧ K u :=
  ⟨_, ⟨hs, ha, rfl, t, cs, hm, hl, rfl⟩, hK⟩
theorem s_stV {s b off : Nat} {t : TypeId} {cs : List AV} {x : AV} {σ1 σ2 : Store} {k : AV → Store → Prop} (hl : x.cells.length = s) (ho : ∀ c ∈ x.cells, c.one = true) (hf : off + s ≤ cs.length) (hk : k .undef (σ1 ++ .var b t (splice cs off x.cells) :: σ2)) :
    storeA s (.val (.pointer (some ⟨b, off, none⟩))) x (σ1 ++ .var b t cs :: σ2) k := ⟨hl, ho, rfl, σ1, σ2, t, cs, rfl, hf, hk⟩
theorem s_faV {off s : Nat} {b o : Nat} {K : AV → Prop} (hs : 0 < s) (hK : K (.val (.pointer (some ⟨b, o + off, none⟩)))) : ∃ u, aFieldAddr off s (.val (.pointer (some ⟨b, o, none⟩))) u ∧ K u := ⟨_, ⟨hs, by
  show _ = _
  rw [addr_lit_add]⟩, hK⟩
end Go.Ab
