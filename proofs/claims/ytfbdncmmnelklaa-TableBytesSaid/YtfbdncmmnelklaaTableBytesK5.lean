/- The texts that this claim needs, part 5: a logic over abstract values, its steps, what the functions do. No condition of its own. -/
import Derived.RangeFuncNested
import Derived.RangeFuncCalls
import Derived.RangeFuncLeaves
import Derived.OrdersIn
import Derived.TacticsIn
import Derived.Test.YtfbdncmmnelklaaTableBytesK4
/- A logic over abstract states (part 21): the same rules where a walk goes on within a round of a range over a function. -/
set_option linter.unusedVariables false
set_option linter.unusedSimpArgs false
namespace Go.Ab
variable {P : Program}
/-- Nothing is barred, in a round or not. -/
def wideR (ro : Option Nat) : Fence := { Fence.wide with round := ro }
theorem calls_wideR {f : FuncId} {args : Array Value} {w : World} {R : Ending → World → Prop} (ro : Option Nat) {n : Nat} (h : Calls P f args w R) : CallsIn (wideR ro) n P f args w R := (callsIn_wide (n := n)).2 h
theorem rows_wideR {row : String} {args : Array Value} {w : World} {R : Value → World → Prop} (ro : Option Nat) {n : Nat} (h : Rows P row args w R) : RowsIn (wideR ro) n P row args w R := fun c cs _ => by
  obtain ⟨v, w', r, s⟩ := h c cs
  exact ⟨v, w', r, stepsIn_wide.2 s⟩
theorem upon_in {o : Oper} {a : Act} {next : Act → World → Prop} {Q : Exit → Act → World → Prop} (ro : Option Nat) {n : Nat} {r : Result Next} (h : o.upon P a next Q r) : o.uponIn (wideR ro) n P a next Q r := by
  unfold Oper.upon at h
  unfold Oper.uponIn
  split at h <;> first
    | exact h
    | exact ⟨(fun hd => by cases hd), calls_wideR ro h⟩
    | exact ⟨(fun hd => by cases hd), rows_wideR ro h⟩
    | exact h.elim
/-- An operation that is no defer statement. -/
def noDefer (o : Oper) : Bool := match o.op with
  | .defer _ => false
  | _ => true
theorem noDefer_ne {o : Oper} (h : noDefer o = true) : ∀ c, o.op ≠ .defer c := by
  intro c e
  unfold noDefer at h
  rw [e] at h
  cases h
theorem wp_in {o : Oper} {a : Act} {w : World} {next : Act → World → Prop} {Q : Exit → Act → World → Prop} (ro : Option Nat) {n : Nat} (hd : noDefer o = true) (h : o.wp P a w next Q) : o.wpIn (wideR ro) n P a w next Q := by
  refine ⟨fun _ _ => trivial, ?_⟩
  rw [Oper.semAt_eq _ _ _ (noDefer_ne hd)]
  exact upon_in ro h
theorem wpList_in {ops : Array Oper} {Q : Exit → Act → World → Prop} (ro : Option Nat) {n : Nat} (hQ : ¬ LetsOut Q) : ∀ (l : List Oper), (∀ o ∈ l, noDefer o = true) → ∀ {a : Act} {w : World}, wpList P ops Q l a w → wpListIn (wideR ro) n P ops Q l a w
  | [], _, a, w, h => h
  | o :: l, hl, a, w, h => by
    unfold wpList at h
    unfold wpListIn
    split at h
    · rename_i hw
      rw [if_pos hw]
      rcases h with h | h
      · exact wp_in ro (hl o (List.mem_cons_self ..)) (Oper.wp_mono (fun a w h => wpList_in ro hQ l (fun o ho => hl o (List.mem_cons_of_mem _ ho)) h) h)
      · exact absurd h.2 hQ
    · rename_i hw
      rw [if_neg hw]
      exact ⟨fun _ _ => trivial, wpList_in ro hQ l (fun o ho => hl o (List.mem_cons_of_mem _ ho)) h⟩
theorem wpAny_in {ops : Array Oper} {Q : Exit → Act → World → Prop} {md : Region.Mode} (ro : Option Nat) {n : Nat} (hQ : ¬ LetsOut Q) (hl : ∀ (i : Nat) (o : Oper), ops[i]? = some o → noDefer o = true) : ∀ (fuel : Nat) (listed : Array Bool) {a : Act} {w : World}, wpAny P md ops Q fuel listed a w → wpAnyIn (wideR ro) n P md ops Q fuel listed a w
  | 0, listed, a, w, h => h
  | fuel + 1, listed, a, w, h => by
    refine ⟨h.1, fun i hi => ?_⟩
    have h2 := h.2 i hi
    unfold wpOp at h2
    unfold wpOpIn
    split at h2
    · rename_i he; rw [he]; exact wpAny_in ro hQ hl fuel _ h2
    · rename_i o he
      rw [he]
      dsimp only
      split at h2
      · rename_i hw
        rw [if_pos hw]
        rcases h2 with h2 | h2
        · exact wp_in ro (hl i o he) (Oper.wp_mono (fun a w h => wpAny_in ro hQ hl fuel _ h) h2)
        · exact absurd h2.2 hQ
      · rename_i hw
        rw [if_neg hw]
        exact ⟨fun _ _ => trivial, wpAny_in ro hQ hl fuel _ h2⟩
/-- Code without defer statements, jumps' labels' scopes and ranges over functions. -/
def plainC : Code → Bool
  | .region _ ops _ => ops.toList.all noDefer
  | .seq a b => plainC a && plainC b
  | .cond _ a b => plainC a && plainC b
  | .block _ a => plainC a
  | .loop a => plainC a
  | .scope _ => false
  | .rangeFunc .. => false
  | _ => true
theorem Post.noOut {N : Nat} {D : List Deferred} {R : RO} {w : World} {σ : Store} {K : AX → Fr → Store → Prop} : ¬ LetsOut (Post N D R w σ K) := by
  rintro ⟨a, w', x, fr, σ', R', h1, _⟩
  cases x <;> exact h1.elim
theorem vcIn_sound {S : Sem' P} {N : Nat} {A : Ann} {D : List Deferred} (ro : Option Nat) {n : Nat} (c : Code) (hp : plainC c = true) :
    ∀ {K : AX → Fr → Store → Prop} {fr : Fr} {σ : Store}, vc S N A c K fr σ → ∀ {R : RO} {w : World} {a : Act}, ActR R N D a fr → St R w σ → c.wpIn (wideR ro) n P (Post N D R w σ K) a w := by
  induction c with
  | skip => intro K fr σ h R w a ha hs; exact wpIn_skip ⟨.norm, fr, σ, R, trivial, h, ha, hs, Ext.refl _ _ _⟩
  | label l => intro K fr σ h R w a ha hs; exact wpIn_label ⟨.norm, fr, σ, R, trivial, h, ha, hs, Ext.refl _ _ _⟩
  | exit id => intro K fr σ h R w a ha hs; exact wpIn_exit ⟨.exit id, fr, σ, R, rfl, h, ha, hs, Ext.refl _ _ _⟩
  | ret => intro K fr σ h R w a ha hs; exact wpIn_ret ⟨.ret, fr, σ, R, trivial, h, ha, hs, Ext.refl _ _ _⟩
  | region id ops draw =>
    intro K fr σ h R w a ha hs
    have hnd : ∀ o ∈ ops.toList, noDefer o = true := fun o ho => List.all_eq_true.1 hp o ho
    cases draw with
    | false =>
      unfold vc at h
      cases hf : ops.toList.all (opFine N ops) with
      | false => rw [hf] at h; exact h.elim
      | true =>
        rw [hf] at h
        exact wpIn_region_list (wpList_in ro Post.noOut _ hnd (vcOps_sound ops.toList (fun o ho => List.all_eq_true.1 hf o ho) (vcOps1_vcOps _ _ _ h) ha hs fun _ _ _ hq => hq))
    | true =>
      unfold vc at h
      cases hf : (ops.toList.all (opFine N ops) && P.follows .mixedOrders) with
      | false => rw [hf] at h; exact h.elim
      | true =>
        rw [hf] at h
        simp only [Bool.and_eq_true] at hf
        refine wpIn_region_any hf.2 (wpAny_in ro Post.noOut (fun i o ho => hnd o (Array.mem_toList_iff.2 (Array.mem_of_getElem? ho))) _ _ ?_)
        have hs' : St R { w with drawn := w.drawn + 1 } σ := by
          refine ⟨hs.ro, fun e he => ?_, hs.apart⟩
          exact (hs.ents e he).keep (fun _ _ h => h) (fun _ _ => rfl) (fun _ _ _ _ h _ => h)
        have hx : Ext R w σ R { w with drawn := w.drawn + 1 } σ := ⟨fun _ _ h => h, rfl, rfl, rfl, Nat.le_refl _, fun _ _ _ => rfl, fun _ h => .inl h, fun _ _ h => .inl h⟩
        have hlen : (open_ ops (Array.replicate ops.size false)).length ≤ ops.size := Nat.le_trans (List.length_filter_le _ _) (by simp)
        have hof : ∀ (i : Nat) (o : Oper), ops[i]? = some o → opFine N ops o = true := fun i o ho => List.all_eq_true.1 hf.1 o (Array.mem_toList_iff.2 (Array.mem_of_getElem? ho))
        cases hj : A.rj id with
        | none =>
          rw [hj] at h
          exact vcAny_sound hof ops.size hlen (vcAny1_vcAny _ _ _ _ h) ha hs' fun e a' w' hp => hp.trans hx
        | some L =>
          rw [hj] at h
          obtain ⟨J, h, hJ⟩ := h
          refine vcAny_sound (K := fun x fr σ => match x with | .norm => ∃ vs' τ, Sub σ (L.map fr) τ vs' ∧ J vs' τ | .pan u => K (.pan u) fr σ | _ => False) hof ops.size hlen (vcAny1_vcAny _ _ _ _ h) ha hs' ?_
          rintro e a' w' ⟨ax, fr', σ', R', h1, h2, h3, h4, h5⟩
          cases ax with
          | norm =>
            obtain ⟨vs', τ, hsub, h2⟩ := h2
            obtain ⟨R2, g1, g2, g3⟩ := h3.sub h4 L hsub
            cases e with
            | normal => exact ⟨.norm, _, τ, R2, trivial, hJ _ _ h2, g1, g2, (hx.trans h5).trans g3⟩
            | _ => exact h1.elim
          | pan u => exact ⟨.pan u, fr', σ', R', h1, h2, h3, h4, hx.trans h5⟩
          | _ => exact h2.elim
  | seq x y ihx ihy =>
    intro K fr σ h R w a ha hs
    simp only [plainC, Bool.and_eq_true] at hp
    unfold vc at h
    have go : ∀ (k : Fr → Store → Prop), (∀ fr σ, k fr σ → ∀ {R : RO} {w : World} {a : Act}, ActR R N D a fr → St R w σ → y.wpIn (wideR ro) n P (Post N D R w σ K) a w) →
        vc S N A x (thenX k K) fr σ → (Code.seq x y).wpIn (wideR ro) n P (Post N D R w σ K) a w := by
      intro k hk hv
      refine wpIn_seq (wpIn_mono (ihx hp.1 hv ha hs) ?_)
      rintro e a' w' ⟨ax, fr', σ', R', h1, h2, h3, h4, h5⟩
      cases e with
      | normal =>
        cases ax with
        | norm => exact wpIn_mono (hk fr' σ' h2 h3 h4) fun e a'' w'' hp => hp.trans h5
        | _ => exact h1.elim
      | exit i =>
        cases ax with
        | exit j => exact ⟨.exit j, fr', σ', R', h1, h2, h3, h4, h5⟩
        | _ => exact h1.elim
      | goto l => cases ax <;> exact h1.elim
      | ret =>
        cases ax with
        | ret => exact ⟨.ret, fr', σ', R', h1, h2, h3, h4, h5⟩
        | _ => exact h1.elim
      | panic ch =>
        cases ax with
        | pan u => exact ⟨.pan u, fr', σ', R', h1, h2, h3, h4, h5⟩
        | _ => exact h1.elim
      | outgrown => cases ax <;> exact h1.elim
    cases hj : A.jn (firstRegion y) with
    | none =>
      rw [hj] at h
      exact go _ (fun fr σ hk _ _ _ ha hs => ihy hp.2 hk ha hs) h
    | some L =>
      rw [hj] at h
      obtain ⟨J, h, hJ⟩ := h
      exact go _ (fun fr σ hk _ _ _ ha hs => by
        obtain ⟨vs', τ, hsub, hk⟩ := hk
        obtain ⟨R2, g1, g2, g3⟩ := ha.sub hs L hsub
        exact wpIn_mono (ihy hp.2 (hJ _ _ hk) g1 g2) fun e a' w' hp => hp.trans g3) h
  | cond c x y ihx ihy =>
    intro K fr σ h R w a ha hs
    simp only [plainC, Bool.and_eq_true] at hp
    unfold vc aCond at h
    have hv := ha.eval c
    split at h
    · rename_i b hb
      rw [hb] at hv
      refine wpIn_cond hv.val_inv ?_
      cases b with
      | true => exact ihx hp.1 h ha hs
      | false => exact ihy hp.2 (by simpa using h) ha hs
    · exact h.elim
  | block id x ih =>
    intro K fr σ h R w a ha hs
    unfold vc at h
    refine wpIn_block (wpIn_mono (ih hp h ha hs) ?_)
    rintro e a' w' ⟨ax, fr', σ', R', h1, h2, h3, h4, h5⟩
    cases e with
    | normal =>
      cases ax with
      | norm => exact ⟨.norm, fr', σ', R', h1, h2, h3, h4, h5⟩
      | _ => exact h1.elim
    | exit i =>
      cases ax with
      | exit j =>
        cases h1
        simp only [inBlockX] at h2
        simp only [Exit.inBlock]
        by_cases he : i = id
        · subst he
          rw [if_pos rfl]
          have hb : Nat.beq i i = true := Nat.beq_refl i
          rw [hb] at h2
          exact ⟨.norm, fr', σ', R', trivial, h2, h3, h4, h5⟩
        · rw [if_neg he]
          have hb : Nat.beq i id = false := by
            cases hb : Nat.beq i id with
            | false => rfl
            | true => exact absurd (Nat.eq_of_beq_eq_true hb) he
          rw [hb] at h2
          exact ⟨.exit i, fr', σ', R', rfl, h2, h3, h4, h5⟩
      | _ => exact h1.elim
    | goto l => cases ax <;> exact h1.elim
    | ret =>
      cases ax with
      | ret => exact ⟨.ret, fr', σ', R', h1, h2, h3, h4, h5⟩
      | _ => exact h1.elim
    | panic ch =>
      cases ax with
      | pan u => exact ⟨.pan u, fr', σ', R', h1, h2, h3, h4, h5⟩
      | _ => exact h1.elim
    | outgrown => cases ax <;> exact h1.elim
  | loop x ih =>
    intro K fr σ h R0 w0 a0 ha0 hs0
    unfold vc aLoop at h
    obtain ⟨I, ⟨n0, vs0, τ0, hl0, hI0⟩, hround⟩ := h
    obtain ⟨Rs, k1, k2, k3⟩ := ha0.sub hs0 _ hl0
    let L := A.lp (firstRegion x)
    let Inv : Nat → Act → World → Prop := fun n a w => ∃ vs τ R, I n vs τ ∧ ActR R N D a (mkFr L vs) ∧ St R w τ ∧ Ext R0 w0 σ R w τ
    refine wpIn_loop (fun a w => ∃ n, Inv n a w) (fun a w => least fun n => Inv n a w) ⟨n0, _, τ0, Rs, hI0, k1, k2, k3⟩ ?_
    intro a w hex
    obtain ⟨⟨vs, τ, R, hI, ha, hs, hx⟩, _⟩ := least_spec hex
    refine wpIn_mono (ih hp (hround _ vs τ hI) ha hs) ?_
    rintro e a' w' ⟨ax, fr', σ', R', h1, h2, h3, h4, h5⟩
    cases e with
    | normal =>
      cases ax with
      | norm =>
        obtain ⟨m, vs'', τ', hm, hl, hI'⟩ := h2
        obtain ⟨R2, g1, g2, g3⟩ := h3.sub h4 _ hl
        have hinv : Inv m a' w' := ⟨_, τ', R2, hI', g1, g2, (hx.trans h5).trans g3⟩
        refine ⟨⟨m, hinv⟩, ?_⟩
        have hex' : ∃ n, Inv n a' w' := ⟨m, hinv⟩
        have hle : least (fun n => Inv n a' w') ≤ m := by
          rcases Nat.lt_or_ge m (least fun n => Inv n a' w') with hlt | hge
          · exact absurd hinv ((least_spec hex').2 m hlt)
          · exact hge
        exact Nat.lt_of_le_of_lt hle hm
      | _ => exact h1.elim
    | exit i =>
      cases ax with
      | exit j => exact ⟨.exit j, fr', σ', R', h1, h2, h3, h4, hx.trans h5⟩
      | _ => exact h1.elim
    | goto l => cases ax <;> exact h1.elim
    | ret =>
      cases ax with
      | ret => exact ⟨.ret, fr', σ', R', h1, h2, h3, h4, hx.trans h5⟩
      | _ => exact h1.elim
    | panic ch =>
      cases ax with
      | pan u => exact ⟨.pan u, fr', σ', R', h1, h2, h3, h4, hx.trans h5⟩
      | _ => exact h1.elim
    | outgrown => cases ax <;> exact h1.elim
  | scope x ih => cases hp
  | _ => intro K fr σ h; exact h.elim
end Go.Ab

/- A logic over abstract states (part 22): a range over a function, its iterator told by the values that it hands over. -/
set_option linter.unusedVariables false
set_option linter.unusedSimpArgs false
namespace Go.Ab
variable {P : Program}
def cellE : Ent → Bool
  | .row .. => true
  | .var .. => true
  | _ => false
/-- Rows and variables alone. -/
def cellsOnly (σ : Store) : Prop := ∀ e ∈ σ, cellE e = true
theorem EntOk.cells {R : RO} {w : World} {e : Ent} (h : EntOk R w e) (hc : cellE e = true) {b : Nat} (hb : e.blk = some b) : ∃ o : Obj, w.heap[b]? = some o ∧ o.isCells = true := by
  cases e with
  | row v E sz l fl =>
    obtain ⟨h1, h2, ⟨vs, h3, h4⟩, h5, h6⟩ := h
    rcases h3.2 with ⟨hv, _⟩ | ⟨g, cap, cur, rfl, hg, ⟨fz, hz, hh⟩, r⟩
    · rw [hv] at hb; cases hb
    · have hb : some g = some b := hb
      cases hb
      exact ⟨_, hh, rfl⟩
  | var b' t cs =>
    obtain ⟨⟨vs, h1, h2⟩, h3⟩ := h
    cases hb
    exact ⟨_, h1, rfl⟩
  | map _ _ _ => cases hc
  | iter _ _ _ _ _ => cases hc
theorem St.cells {R : RO} {w : World} {σ : Store} (h : St R w σ) (hc : cellsOnly σ) {b : Nat} (hb : b ∈ blks σ) : ∃ o : Obj, w.heap[b]? = some o ∧ o.isCells = true := by
  obtain ⟨e, he, hb⟩ := mem_blks.1 hb
  exact (h.ents e he).cells (hc e he) hb
theorem EntOk.notDeferred {R : RO} {w : World} {e : Ent} (h : EntOk R w e) {b : Nat} (hb : e.blk = some b) (x : Option (List Deferred)) : ¬ w.heap[b]? = some (.deferred x) := by
  intro hd
  cases e with
  | row v E sz l fl =>
    obtain ⟨o, h1, h2⟩ := h.cells rfl hb
    rw [hd] at h1; cases h1; cases h2
  | var b' t cs =>
    obtain ⟨o, h1, h2⟩ := h.cells rfl hb
    rw [hd] at h1; cases h1; cases h2
  | map b' l clock =>
    obtain ⟨⟨es, h1, _⟩, _⟩ := h
    cases hb
    rw [hd] at h1; cases h1
  | iter b' mb since seen stepped =>
    obtain ⟨h1, _⟩ := h
    cases hb
    rw [hd] at h1; cases h1
/-- A block that is no cells turns. -/
theorem St.turn {R : RO} {w w' : World} {σ : Store} {row : Option Nat} (h : St R w σ) (hc : cellsOnly σ) (hg : w.grownBy w' row) (hr : ∀ r, row = some r → ∃ o : Obj, w.heap[r]? = some o ∧ o.isCells = false) : St R w' σ := by
  have key : ∀ b : Nat, (∃ o : Obj, w.heap[b]? = some o ∧ o.isCells = true) → some b ≠ row := by
    rintro b ⟨o, h1, h2⟩ e
    obtain ⟨o', h3, h4⟩ := hr b e.symm
    rw [h1] at h3
    cases h3
    rw [h2] at h4
    cases h4
  refine ⟨fun a v ha => hg.cell (h.ro a v ha) (key _ (cells_of_cell (h.ro a v ha))), fun e he => ?_, h.apart⟩
  refine (h.ents e he).keep (fun _ _ h => h) (fun b hb => ?_) (fun _ _ _ _ h _ => h)
  exact hg.block b ((h.ents e he).lt hb) (key b ((h.ents e he).cells (hc e he) hb))
theorem Ext.turn {R R' : RO} {w w1 w2 : World} {σ σ' : Store} {row : Option Nat} (h : Ext R w σ R' w1 σ') (hg : w1.grownBy w2 row) (hr : ∀ r, row = some r → w.heap.size ≤ r) : Ext R w σ R' w2 σ' :=
  ⟨h.ro, hg.os.trans h.os, hg.tape.trans h.tape, hg.output.trans h.output, Nat.le_trans h.size hg.size,
    fun k hk hn => (hg.block k (Nat.lt_of_lt_of_le hk h.size) (fun e => by have := hr k e.symm; omega)).trans (h.block k hk hn), h.own, h.new⟩
theorem St.turnD {R : RO} {w : World} {σ : Store} {r : Nat} {x : Option (List Deferred)} (o' : Obj) (h : St R w σ) (hr : w.heap[r]? = some (.deferred x)) : St R (w.putObj r o') σ := by
  have hg := grownBy_putObj' w r o'
  refine ⟨fun a v ha => hg.cell (h.ro a v ha) (fun e => ?_), fun e he => ?_, h.apart⟩
  · cases e
    obtain ⟨o, h1, h2⟩ := cells_of_cell (h.ro a v ha)
    rw [hr] at h1; cases h1; cases h2
  · refine (h.ents e he).keep (fun _ _ h => h) (fun b hb => ?_) (fun _ _ _ _ h _ => h)
    exact hg.block b ((h.ents e he).lt hb) (fun e2 => by cases e2; exact (h.ents e he).notDeferred hb _ hr)
/-- What is kept of frozen memory. -/
def KpR (R : RO) (W W' : World) : Prop := ∀ a v, R a = some v → W.cell? a = some v → W'.cell? a = some v
/-- An iterator, told by the values that it hands over (of what kind, how many at most). -/
def SeqA (P : Program) (gf : FuncId) (caps : List AV) {β : Type} (f : β → AV) (ok : β → Prop) (N : Nat) (xs : List β) : Prop :=
  (∃ fn c, P.funcs[gf]? = some fn ∧ fn.body = some c ∧ ∀ args w, (callFunc gf args).run P w = .ok (.enter gf args) w) ∧
  ∀ (R : RO) (w : World) (lb : List Value), VRs R lb caps → (∀ a v, R a = some v → w.cell? a = some v) → ∀ n, 1 ≤ n →
    SeqStopsK (α := {p : Value × β // VR R p.1 (f p.2) ∧ ok p.2}) (wideR none) n P gf lb.toArray (fun p => #[p.1.1]) (KpR R) (fun ys => ys.map (·.1.2) = xs) (fun _ => True) N w
/-- A range over a function: an invariant of what has come. -/
def aRange (P : Program) (g : AV) (body : AV → (Store → Prop) → Store → Prop) (rest : Store → Prop) (σ : Store) : Prop :=
  ∃ (gf : FuncId) (caps : List AV) (β : Type) (f : β → AV) (ok : β → Prop) (N : Nat) (xs : List β), g = .fn (.func gf) [] caps ∧ SeqA P gf caps f ok N xs ∧
    ∃ I : List β → Store → Prop, (∀ pre τ, I pre τ → cellsOnly τ) ∧ (∃ τ, (∀ R w, St R w σ → ∃ R', R.le R' ∧ St R' w τ ∧ Ext R w σ R' w τ) ∧ I [] τ) ∧
      (∀ pre x τ, I pre τ → pre.length < N → ok x → body (f x) (fun τ' => ∃ τ'', (∀ R w, St R w τ' → ∃ R', R.le R' ∧ St R' w τ'' ∧ Ext R w τ' R' w τ'') ∧ I (pre ++ [x]) τ'') τ) ∧ (∀ τ, I xs τ → rest τ)
def hasR : Code → Bool
  | .rangeFunc .. => true
  | .seq a b => hasR a || hasR b
  | .block _ a => hasR a
  | _ => false
/-- The assignment to the loop's variable. -/
def asgOf (p : Nat) : Code → Option Nat
  | .region _ ops false => match ops.toList with
    | [o] => match o.op, o.dst, o.guard with
      | .assign (.tmp q), some d, none => bif Nat.beq q p then some d else none
      | _, _, _ => none
    | _ => none
  | _ => none
/-- Code with one range over a function on its way. -/
def vcR (S : Sem' P) (N : Nat) (A : Ann) : Code → (AX → Fr → Store → Prop) → Fr → Store → Prop
  | .rangeFunc g ps asg bod, K, fr, σ => match ps.toList with
    | [p] => match asgOf p asg with
      | some d => bif Nat.ble N p || Nat.ble N d || !plainC bod then False else aRange P (evA fr g) (fun u j τ => vc S N A bod (fun x _ τ' => match x with | .norm => j τ' | _ => False) (upd (upd fr p u) d u) τ) (fun τ => K .norm fr τ) σ
      | none => False
    | _ => False
  | .seq a b, K, fr, σ => bif hasR a then (bif plainC b then vcR S N A a (thenX (vc S N A b K) K) fr σ else False) else (bif plainC a then vc S N A a (thenX (vcR S N A b K) K) fr σ else False)
  | .block id a, K, fr, σ => vcR S N A a (inBlockX id K) fr σ
  | _, _, _, _ => False
/-- What is left: a mark, or none. -/
def PostM (N : Nat) (R : RO) (w : World) (σ : Store) (K : AX → Fr → Store → Prop) (e : Exit) (a' : Act) (w' : World) : Prop :=
  ∃ Ds : List Deferred, (Ds = [] ∨ ∃ r, Ds = [{ target := .collected r, args := #[] }] ∧ w.heap.size ≤ r ∧ w'.heap[r]? = some (.deferred (some []))) ∧ Post N Ds R w σ K e a' w'
theorem upd_put {R : RO} {N : Nat} {a : Act} {fr : Fr} (h : ActR R N [] a fr) {p : Nat} (hp : p < N) {v : Value} {u : AV} (hv : VR R v u) : ActR R N [] { tmps := a.tmps.setIfInBounds p v, defers := [] } (upd fr p u) := by
  have := h.put (dst := some p) (fun d e => by cases e; exact hp) hv
  exact ⟨this.size, rfl, this.tmps⟩
theorem assign_in {asg : Code} {p d : Nat} (h : asgOf p asg = some d) (ro : Option Nat) {n : Nat} {K : Act → World → Prop} {a : Act} {w : World} (hK : K (a.put (some d) (a.eval (.tmp p))) w) : asg.wpIn (wideR ro) n P (Exit.then K (fun _ _ _ => False)) a w := by
  unfold asgOf at h
  split at h
  · rename_i id ops
    split at h
    · rename_i o ho
      split at h
      · rename_i q d' h1 h2 h3
        cases hb : Nat.beq q p with
        | false => rw [hb] at h; cases h
        | true =>
          rw [hb] at h
          have hq : q = p := Nat.eq_of_beq_eq_true hb
          subst hq
          have hd : d' = d := by simpa using h
          subst hd
          refine wpIn_region_list ?_
          rw [ho]
          unfold wpListIn
          have hw : Region.wanted o (yielded ops a.tmps) = true := by simp [Region.wanted, h3]
          rw [if_pos hw]
          refine ⟨fun _ _ => trivial, ?_⟩
          rw [Oper.semAt_eq _ _ _ (fun c e => by rw [h1] at e; cases e)]
          have hrun : (execOp a.eval o).run P w = .ok (.value (a.eval (.tmp q))) w := by simp [execOp, h1]
          rw [hrun]
          rw [Oper.uponIn_value, h2]
          unfold wpListIn
          exact hK
      · cases h
    · cases h
  · cases h
theorem vcR_sound {S : Sem' P} {N : Nat} {A : Ann} {n : Nat} (hn : 3 ≤ n) (c : Code) :
    ∀ {K : AX → Fr → Store → Prop} {fr : Fr} {σ : Store}, vcR S N A c K fr σ → ∀ {R : RO} {w : World} {a : Act}, ActR R N [] a fr → St R w σ → c.wpIn (wideR none) n P (PostM N R w σ K) a w := by
  induction c with
  | rangeFunc g ps asg bod _ _ =>
    intro K fr σ h R w a ha hs
    unfold vcR at h
    split at h
    · rename_i p hps
      split at h
      · rename_i d hasg
        cases hc : (Nat.ble N p || Nat.ble N d || !plainC bod) with
        | true => rw [hc] at h; exact h.elim
        | false =>
          rw [hc] at h
          simp only [Bool.or_eq_false_iff, Bool.not_eq_false'] at hc
          obtain ⟨⟨hp, hd⟩, hpl⟩ := hc
          have hp : p < N := by
            rcases Nat.lt_or_ge p N with h | h
            · exact h
            · rw [Nat.ble_eq_true_of_le h] at hp; cases hp
          have hd : d < N := by
            rcases Nat.lt_or_ge d N with h | h
            · exact h
            · rw [Nat.ble_eq_true_of_le h] at hd; cases hd
          obtain ⟨gf, caps, β, f, ok, M, xs, hg, ⟨⟨fn, c, hfn, hfb, hent⟩, hseq⟩, I, hIc, ⟨τ0, hsub, hI0⟩, hbody, hrest⟩ := h
          obtain ⟨R1, hle1, hs1, hx1⟩ := hsub R w hs
          have hv := ha.eval g
          rw [hg] at hv
          have hgv : ∃ lb : Array Value, a.eval g = .func (.func gf) #[] lb ∧ VRs R lb.toList caps := by
            cases hv' : a.eval g with
            | func f0 fs cs =>
              rw [hv'] at hv
              cases hv with
              | fn hl hv1 hl' hv2 =>
                have : fs = #[] := by
                  apply Array.ext'
                  have : fs.toList.length = 0 := hl
                  simpa using this
                subst this
                exact ⟨cs, rfl, hl', hv2⟩
            | _ => rw [hv'] at hv; cases hv
          obtain ⟨lb, hev, hlb⟩ := hgv
          have hps' : ps = #[p] := by cases ps; simp_all
          subst hps'
          have hS := hseq R1 w lb.toList (hlb.mono hle1) hs1.ro (n - 1) (by omega)
          rw [Array.toArray_toList] at hS
          refine wpIn_rangeFunc_ownG (F := wideR none) rfl (by omega) (gf := gf) (lb := lb) hev trivial hent hS (fun h k b v hr hb => k b v hr (h b v hr hb)) (fun W l o o' hl ho hoc _ b v hr hb => (grownBy_putObj' W l o').cell hb (fun e => by
              cases e
              obtain ⟨o2, h2, h3⟩ := cells_of_cell hb
              rw [ho] at h2; cases h2
              rw [hoc] at h3; cases h3)) (RowKit.Below.refl _ _) (fun x => rfl)
            (fun pre W => ∃ τ R', I (pre.map (·.1.2)) τ ∧ St R' W τ ∧ Ext R1 w τ0 R' W τ) (fun _ _ _ => False) ?_ (fun _ _ _ _ _ h _ _ => h) ⟨τ0, R1, hI0, hs1, Ext.refl _ _ _⟩
            (fun x => { tmps := (a.tmps.setIfInBounds p x.1.1).setIfInBounds d x.1.1, defers := [] }) ?_ ?_ ?_ (fun _ _ _ _ _ _ h _ => h.elim)
          · rintro s W W' row ⟨τ, R', h1, h2, h3⟩ hgr hr
            exact ⟨τ, R', h1, h2.turn (hIc _ _ h1) hgr (fun r e => (hr r e).2), h3.turn hgr (fun r e => (hr r e).1)⟩
          · intro l x W K' hK'
            refine assign_in hasg (some l) ?_
            have e1 : (((#[p] : Array Tmp).zip (#[x.1.1] : Array Value)).foldl (fun t (p, v) => t.setIfInBounds p v) a.tmps) = a.tmps.setIfInBounds p x.1.1 := by simp
            rw [e1]
            have e2 : (Act.eval { tmps := a.tmps.setIfInBounds p x.1.1, defers := [] } (.tmp p)) = x.1.1 := by
              show (a.tmps.setIfInBounds p x.1.1).getD p Go.undef = _
              have hpN : p < a.tmps.size := by rw [ha.size]; exact hp
              rw [Array.getD_eq_getD_getElem?, Array.getElem?_setIfInBounds_self_of_lt hpN]
              rfl
            rw [e2]
            exact hK'
          · rintro l pre x W ⟨τ, R', h1, h2, h3⟩ hlen
            have hle : R1.le R' := h3.ro
            have ha1 := upd_put (upd_put (ha.mono (fun a v h => hle a v (hle1 a v h))) hp (x.2.1.mono hle)) hd (x.2.1.mono hle)
            have := vcIn_sound (A := A) (some l) (n := n - 1 - 1) bod hpl (hbody (pre.map (·.1.2)) x.1.2 τ h1 (by simpa using hlen) x.2.2) ha1 h2
            refine wpIn_mono this ?_
            rintro e a' W' ⟨ax, fr', σ', R2, k1, k2, k3, k4, k5⟩
            cases e with
            | normal =>
              cases ax with
              | norm =>
                obtain ⟨τ2, hsub2, hI2⟩ := k2
                obtain ⟨R3, g1, g2, g3⟩ := hsub2 R2 W' k4
                refine ⟨⟨k5.size, fun k o _ hk ho => ?_⟩, fun b v hr hb => k4.ro b v (k5.ro b v (hle b v hr)), τ2, R3, ?_, g2, (h3.trans k5).trans g3⟩
                · refine (k5.block k (Array.getElem?_eq_some_iff.1 hk).1 fun hm => ?_).trans hk
                  obtain ⟨o2, h4, h5⟩ := h2.cells (hIc _ _ h1) hm
                  rw [hk] at h4; cases h4
                  rw [ho] at h5; cases h5
                · rw [List.map_append]; exact hI2
              | _ => exact k1.elim
            | exit i => cases ax <;> first | exact k1.elim | exact k2.elim
            | goto l => cases ax <;> exact k1.elim
            | ret => cases ax <;> first | exact k1.elim | exact k2.elim
            | panic ch => cases ax <;> first | exact k1.elim | exact k2.elim
            | outgrown => cases ax <;> exact k1.elim
          · rintro D ys W hD hys ⟨τ, R', h1, h2, h3⟩ hK
            rw [hys] at h1
            refine ⟨[{ target := .collected D, args := #[] }], .inr ⟨D, rfl, hD, hK⟩, .norm, fr, τ, R', trivial, hrest τ h1, ⟨ha.size, ?_, fun t => ((ha.tmps t).mono hle1).mono h3.ro⟩, h2, hx1.trans h3⟩
            rw [show a.defers = [] from ha.defers]
      · exact h.elim
    · exact h.elim
  | seq x y ihx ihy =>
    intro K fr σ h R w a ha hs
    unfold vcR at h
    cases hr : hasR x with
    | true =>
      rw [hr] at h
      cases hp : plainC y with
      | false => rw [hp] at h; exact h.elim
      | true =>
        rw [hp] at h
        refine wpIn_seq (wpIn_mono (ihx h ha hs) ?_)
        rintro e a' w' ⟨Ds, hDs, ax, fr', σ', R', h1, h2, h3, h4, h5⟩
        cases e with
        | normal =>
          cases ax with
          | norm =>
            refine wpIn_mono (vcIn_sound (A := A) (D := Ds) none y hp h2 h3 h4) ?_
            intro e a'' w'' hpo
            refine ⟨Ds, ?_, hpo.trans h5⟩
            rcases hDs with rfl | ⟨r, rfl, hr1, hr2⟩
            · exact .inl rfl
            · refine .inr ⟨r, rfl, hr1, ?_⟩
              obtain ⟨_, _, _, _, _, _, _, _, k5⟩ := hpo
              refine (k5.block r (Array.getElem?_eq_some_iff.1 hr2).1 fun hm => ?_).trans hr2
              obtain ⟨e, he, hb⟩ := mem_blks.1 hm
              exact (h4.ents e he).notDeferred hb _ hr2
          | _ => exact h1.elim
        | exit i =>
          cases ax with
          | exit j => exact ⟨Ds, hDs, .exit j, fr', σ', R', h1, h2, h3, h4, h5⟩
          | _ => exact h1.elim
        | goto l => cases ax <;> exact h1.elim
        | ret =>
          cases ax with
          | ret => exact ⟨Ds, hDs, .ret, fr', σ', R', h1, h2, h3, h4, h5⟩
          | _ => exact h1.elim
        | panic ch =>
          cases ax with
          | pan u => exact ⟨Ds, hDs, .pan u, fr', σ', R', h1, h2, h3, h4, h5⟩
          | _ => exact h1.elim
        | outgrown => cases ax <;> exact h1.elim
    | false =>
      rw [hr] at h
      cases hp : plainC x with
      | false => rw [hp] at h; exact h.elim
      | true =>
        rw [hp] at h
        refine wpIn_seq (wpIn_mono (vcIn_sound (A := A) (D := []) none x hp h ha hs) ?_)
        rintro e a' w' ⟨ax, fr', σ', R', h1, h2, h3, h4, h5⟩
        have fin : ∀ {ax} , EXR R' e ax → K ax fr' σ' → PostM N R w σ K e a' w' := fun g1 g2 => ⟨[], .inl rfl, _, fr', σ', R', g1, g2, h3, h4, h5⟩
        cases e with
        | normal =>
          cases ax with
          | norm =>
            refine wpIn_mono (ihy h2 h3 h4) ?_
            rintro e a'' w'' ⟨Ds, hDs, hpo⟩
            refine ⟨Ds, ?_, hpo.trans h5⟩
            rcases hDs with h | ⟨r, h, hr1, hr2⟩
            · exact .inl h
            · exact .inr ⟨r, h, Nat.le_trans h5.size hr1, hr2⟩
          | _ => exact h1.elim
        | exit i =>
          cases ax with
          | exit j => exact fin h1 h2
          | _ => exact h1.elim
        | goto l => cases ax <;> exact h1.elim
        | ret =>
          cases ax with
          | ret => exact fin h1 h2
          | _ => exact h1.elim
        | panic ch =>
          cases ax with
          | pan u => exact fin h1 h2
          | _ => exact h1.elim
        | outgrown => cases ax <;> exact h1.elim
  | block id x ih =>
    intro K fr σ h R w a ha hs
    unfold vcR at h
    refine wpIn_block (wpIn_mono (ih h ha hs) ?_)
    rintro e a' w' ⟨Ds, hDs, ax, fr', σ', R', h1, h2, h3, h4, h5⟩
    cases e with
    | normal =>
      cases ax with
      | norm => exact ⟨Ds, hDs, .norm, fr', σ', R', h1, h2, h3, h4, h5⟩
      | _ => exact h1.elim
    | exit i =>
      cases ax with
      | exit j =>
        cases h1
        simp only [inBlockX] at h2
        simp only [Exit.inBlock]
        by_cases he : i = id
        · subst he
          rw [if_pos rfl]
          have hb : Nat.beq i i = true := Nat.beq_refl i
          rw [hb] at h2
          exact ⟨Ds, hDs, .norm, fr', σ', R', trivial, h2, h3, h4, h5⟩
        · rw [if_neg he]
          have hb : Nat.beq i id = false := by
            cases hb : Nat.beq i id with
            | false => rfl
            | true => exact absurd (Nat.eq_of_beq_eq_true hb) he
          rw [hb] at h2
          exact ⟨Ds, hDs, .exit i, fr', σ', R', rfl, h2, h3, h4, h5⟩
      | _ => exact h1.elim
    | goto l => cases ax <;> exact h1.elim
    | ret =>
      cases ax with
      | ret => exact ⟨Ds, hDs, .ret, fr', σ', R', h1, h2, h3, h4, h5⟩
      | _ => exact h1.elim
    | panic ch =>
      cases ax with
      | pan u => exact ⟨Ds, hDs, .pan u, fr', σ', R', h1, h2, h3, h4, h5⟩
      | _ => exact h1.elim
    | outgrown => cases ax <;> exact h1.elim
  | _ => intro K fr σ h; exact h.elim
/-- A function with one range over a function. -/
theorem acallsR_of_eq {S : Sem' P} {A : Ann} {f : FuncId} {fn : Func} {args : List AV} {σ : Store} {Q : AEnd → Store → Prop} (l : List RS) {X : Prop}
    (hf : P.funcs[f]? = some fn) (hb : fn.body = some (bodyOf fn)) (hn : (fn.name == "runtime.NumGoroutine") = false) (hN : Nat.ble args.length fn.ntmps = true) (hr : resOf P fn.results.toList = some l)
    (he : vcR S fn.ntmps A (bodyOf fn) (endK l Q) (argFr args) σ = X) (h : X) : ACalls P f args σ Q := by
  rw [← he] at h
  refine ⟨⟨fn, _, hf, hb, hn⟩, fun R w vs hv hs => (callsIn_wide (n := 3)).1 ?_⟩
  refine callsIn_of_wp_marks (F := Fence.wide) hf hb trivial (wpIn_mono (vcR_sound (n := 3) (Nat.le_refl _) _ h (calls_args hv _ (Nat.le_of_ble_eq_true hN)) hs) ?_) rfl
  have fin : ∀ {a' : Act} {w' : World} {fr' : Fr} {σ' : Store} {R' : RO}, resVs fr' σ' l (fun us => Q (.ret (oneA us)) σ') → (∀ t, VR R' (a'.tmps.getD t Go.undef) (fr' t)) → St R' w' σ' → Ext R w σ R' w' σ' →
      ∃ v, (results fn a'.tmps).run P w' = .ok v w' ∧ ∃ x R' σ', EndR R' (.returned v) x ∧ Q x σ' ∧ St R' w' σ' ∧ Ext R w σ R' w' σ' := by
    intro a' w' fr' σ' R' hq ha hs hx
    obtain ⟨vs, us, h1, h2, h3⟩ := resVs_run hs ha (resG a'.tmps) (fun t => rfl) (fun a t => rfl) _ _ hr _ hq
    refine ⟨(if h : vs.toArray.size = 1 then vs.toArray[0] else .tuple vs.toArray), ?_, .ret (oneA us), R', σ', ?_, h3, hs, hx⟩
    · rw [results_eq]
      rw [Array.mapM_eq_mapM_toList]
      simp only [Sem.run_bind, Sem.run_map]
      rw [h1]
      simp only [Result.andThen_ok, Sem.run_pure]
    · show VR R' _ _
      have gen := VR.tuple' h2
      cases us with
      | nil => cases vs with
        | nil => exact gen
        | cons v vs => have := h2.1; simp at this
      | cons u us => cases vs with
        | nil => have := h2.1; simp at this
        | cons v vs => cases us with
          | nil => cases vs with
            | nil => exact h2.2 0 u v rfl rfl
            | cons _ _ => have := h2.1; simp at this
          | cons _ _ => cases vs with
            | nil => have := h2.1; simp at this
            | cons _ _ => simpa [oneA] using gen
  rintro e a' w' ⟨Ds, hDs, x, fr', σ', R', h1, h2, h3, h4, h5⟩
  have ret : resVs fr' σ' l (fun us => Q (.ret (oneA us)) σ') → LeavesInM Fence.wide 3 P fn a'.tmps (fun e w' => ∃ x R' σ', EndR R' e x ∧ Q x σ' ∧ St R' w' σ' ∧ Ext R w σ R' w' σ') a'.defers .returning w' := by
    intro hq
    rw [h3.defers]
    rcases hDs with rfl | ⟨r, rfl, hr1, hr2⟩
    · exact fin hq h3.tmps h4 h5
    · exact ⟨by simp, .inl ⟨r, _, rfl, run_takeDeferred hr2, fin hq h3.tmps (h4.turnD _ hr2) (h5.turn (grownBy_putObj' w' r _) (fun k e => by cases e; exact hr1))⟩⟩
  cases e with
  | normal =>
    cases x with
    | norm => exact ret h2
    | _ => exact h1.elim
  | ret =>
    cases x with
    | ret => exact ret h2
    | _ => exact h1.elim
  | panic ch =>
    cases x with
    | pan u =>
      show LeavesInM Fence.wide 3 P fn a'.tmps _ a'.defers (.panicking ch) w'
      rw [h3.defers]
      rcases hDs with rfl | ⟨r, rfl, hr1, hr2⟩
      · exact ⟨.pan u, R', σ', h1, h2, h4, h5⟩
      · exact ⟨by simp, .inl ⟨r, _, rfl, run_takeDeferred hr2, ⟨.pan u, R', σ', h1, h2, h4.turnD _ hr2, h5.turn (grownBy_putObj' w' r _) (fun k e => by cases e; exact hr1)⟩⟩⟩
    | _ => exact h1.elim
  | exit i =>
    cases x with
    | exit j => exact h2.elim
    | _ => exact h1.elim
  | goto i => cases x <;> exact h1.elim
  | outgrown => cases x <;> exact h1.elim
end Go.Ab
