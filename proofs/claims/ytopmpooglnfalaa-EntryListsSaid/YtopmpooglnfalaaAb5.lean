/- A logic over abstract states (part 5): the operations of part 4 are what the model runs. -/
import Derived.Test.YtopmpooglnfalaaAb4
set_option linter.unusedVariables false
set_option linter.unusedSimpArgs false
namespace Go.Ab
variable {P : Program}

/-- What an operation that is told by its operands alone must be: it runs to a value that is described so, and what was described stays so. -/
def PRun (P : Program) (s : (Operand → Value) → Sem Next) (ρ : Operand → AV) (u : AV) : Prop :=
  ∀ (R : RO) (w : World) (ev : Operand → Value) (σ : Store), (∀ x, VR R (ev x) (ρ x)) → St R w σ →
    ∃ v w' R', (s ev).run P w = .ok (.value v) w' ∧ VR R' v u ∧ St R' w' σ ∧ Ext R w σ R' w' σ
theorem PRun.aop {o : Oper} {ρ : Operand → AV} {u : AV} (h : PRun P (fun ev => execOp ev o) ρ u) {σ : Store} {k kp : AV → Store → Prop} (hk : k u σ) : AOp P o ρ σ k kp :=
  AOp.ofRun fun R w ev ha hs => let ⟨v, w', R', h1, h2, h3, h4⟩ := h R w ev σ ha hs; ⟨v, w', u, R', σ, h1, hk, h2, h3, h4⟩
/-- The world is left alone. -/
theorem PRun.still {s : (Operand → Value) → Sem Next} {ρ : Operand → AV} {u : AV}
    (h : ∀ (R : RO) (w : World) (ev : Operand → Value), (∀ x, VR R (ev x) (ρ x)) → (∀ a v, R a = some v → w.cell? a = some v) → ∃ v, (s ev).run P w = .ok (.value v) w ∧ VR R v u) : PRun P s ρ u :=
  fun R w ev σ ha hs => let ⟨v, h1, h2⟩ := h R w ev ha hs.ro; ⟨v, w, R, h1, h2, hs, Ext.refl _ _ _⟩

theorem pr_move {ρ : Operand → AV} (x : Operand) : PRun P (fun ev => pure (.value (ev x))) ρ (ρ x) := PRun.still fun R w ev ha _ => ⟨_, rfl, ha x⟩

theorem pr_pick {ρ : Operand → AV} {c a b : Operand} {u : AV} (h : aPick (ρ c) (ρ a) (ρ b) u) : PRun P (fun ev => do pure (.value (if ← asBool (ev c) then ev a else ev b))) ρ u := by
  refine PRun.still fun R w ev ha _ => ?_
  unfold aPick at h
  have hc := ha c
  split at h
  · rename_i t ht
    rw [ht] at hc
    rw [hc.val_inv]
    cases t with
    | true => exact ⟨ev a, by simp [asBool], by rw [h]; exact ha a⟩
    | false => exact ⟨ev b, by simp [asBool], by rw [h]; simpa using ha b⟩
  · exact h.elim

theorem pr_nil {ρ : Operand → AV} {o : Oper} {x : Operand} (ho : o.op = .nilCheck x) {u : AV} (h : aNil (ρ x) u) : PRun P (fun ev => execOp ev o) ρ u := by
  refine PRun.still fun R w ev ha _ => ?_
  have hx := ha x
  unfold aNil at h
  split at h
  · rename_i a e
    rw [e] at hx h
    have := hx.val_inv
    exact ⟨ev x, by simp [execOp, ho, this], by rw [h]; exact hx⟩
  · rename_i cs e
    rw [e] at hx h
    refine ⟨ev x, ?_, by rw [h]; exact hx⟩
    cases hv : ev x <;> rw [hv] at hx <;> cases hx
    simp [execOp, ho, hv]
  · rename_i v sz i j e
    rw [e] at hx h
    refine ⟨ev x, ?_, by rw [h]; exact hx⟩
    cases hv : ev x <;> rw [hv] at hx <;> cases hx
    simp [execOp, ho, hv]
  · rename_i f a b e
    rw [e] at hx
    have hv := hx.val_inv
    cases f with
    | method n => exact h.elim
    | _ => exact ⟨ev x, by simp [execOp, ho, hv], by rw [h]; rw [e]; exact hx⟩
  · rename_i f a b e
    rw [e] at hx
    cases f with
    | method n => exact h.elim
    | _ =>
      refine ⟨ev x, ?_, by rw [h]; rw [e]; exact hx⟩
      cases hv : ev x <;> rw [hv] at hx <;> cases hx
      simp [execOp, ho, hv]
  · exact h.elim

theorem pr_ext {ρ : Operand → AV} {x : Operand} {i : Nat} {u : AV} (h : aExt (ρ x) i u) : PRun P (fun ev => do pure (.value (← Instr.extract (ev x) i))) ρ u := by
  refine PRun.still fun R w ev ha _ => ?_
  have hx := ha x
  unfold aExt at h
  split at h
  · rename_i us e
    rw [e] at hx
    obtain ⟨vs, hv, hr⟩ := hx.tuple_inv
    obtain ⟨v, h1, h2⟩ := hr.get h
    exact ⟨v, by simp [Instr.extract, hv, h1], h2⟩
  · exact h.elim

theorem part_run {t : TypeId} {b : Bool} {s : Nat} (h : shapeOf P t = some (b, s)) {vs : List Value} {off : Nat} (hl : off + s ≤ vs.length) (h1 : b = false → s = 1) (w : World) :
    (part t vs.toArray off).run P w = .ok (mkC b ((vs.drop off).take s)) w := by
  obtain ⟨ha, hs⟩ := shapeOf_run h w
  cases b with
  | true =>
    simp only [part, Sem.run_bind, ha, Result.andThen_ok, if_true, hs, Sem.run_pure]
    congr 1
    simp only [mkC, if_true]
    congr 1
    apply Array.ext'
    simp
  | false =>
    have h1 := h1 rfl
    subst h1
    have hlt : off < vs.length := by omega
    simp only [part, Sem.run_bind, ha, Result.andThen_ok, Bool.false_eq_true, if_false, List.getElem?_toArray, List.getElem?_eq_getElem hlt, Sem.run_pure]
    congr 1
    simp only [mkC, Bool.false_eq_true, if_false]
    rw [List.drop_eq_getElem_cons hlt]
    rfl

theorem pr_field {ρ : Operand → AV} {t : TypeId} {x : Operand} {i : Nat} {off : Nat} {ag : Bool} {s : Nat} (hf : fieldOf P t i = some (off, ag, s)) {u : AV} (h : aField off ag s (ρ x) u) :
    PRun P (fun ev => do pure (.value (← Instr.field t (ev x) i))) ρ u := by
  refine PRun.still fun R w ev ha _ => ?_
  have hx := ha x
  unfold aField at h
  split at h
  · rename_i cs e
    rw [e] at hx
    obtain ⟨vs, hv, hr⟩ := hx.agg_inv
    obtain ⟨hl, h1, hu⟩ := h
    unfold fieldOf at hf
    split at hf
    · rename_i fs hu'
      split at hf
      · rename_i f hfi
        split at hf
        · rename_i b s' hsh
          simp only [Option.some.injEq, Prod.mk.injEq] at hf
          obtain ⟨rfl, rfl, rfl⟩ := hf
          refine ⟨mkC b ((vs.drop f.offset).take s'), ?_, ?_⟩
          · have := part_run (P := P) hsh (vs := vs) (off := f.offset) (by rw [hr.1]; exact hl) h1 w
            simp [Instr.field, run_underlying hu', hfi, hv, asAgg, this]
          · rw [hu]; exact mkV_rel ((hr.drop _).take _) _
        · cases hf
      · cases hf
    · cases hf
  · exact h.elim

theorem addr_add_add (a : Addr) (i j : Nat) : (a.add i).add j = a.add (i + j) := by
  unfold Addr.add
  by_cases h1 : i = 0 <;> by_cases h2 : j = 0 <;> simp [h1, h2, Nat.add_assoc]
theorem addr_add_zero (a : Addr) : a.add 0 = a := by simp [Addr.add]
theorem addr_lit_add (b o i : Nat) : (⟨b, o, none⟩ : Addr).add i = ⟨b, o + i, none⟩ := by
  unfold Addr.add; split
  · rename_i h; simp [h]
  · rfl

theorem VR.eptr_inv {R : RO} {v x : Value} {sz i j : Nat} (h : VR R v (.eptr x sz i j)) : ∃ g n cap, x = .slice (some ⟨g, 0, none⟩) n cap ∧ v = .pointer (some ⟨g, i * sz + j, none⟩) := by
  cases h with
  | eptr => exact ⟨_, _, _, rfl, rfl⟩
theorem VR.rptr_inv {R : RO} {v : Value} {cs : List AV} (h : VR R v (.rptr cs)) : ∃ a vs, v = .pointer (some a) ∧ VRs R vs cs ∧ ∀ (j : Nat) (v : Value), vs[j]? = some v → R (a.add j) = some v := by
  cases h with
  | rptr vs hl hv hR => exact ⟨_, vs, rfl, ⟨hl, hv⟩, hR⟩
theorem VR.rptr_mk {R : RO} {a : Addr} {vs : List Value} {cs : List AV} (h : VRs R vs cs) (hR : ∀ (j : Nat) (v : Value), vs[j]? = some v → R (a.add j) = some v) : VR R (.pointer (some a)) (.rptr cs) := .rptr vs h.1 h.2 hR
theorem rptr_part {R : RO} {a : Addr} {vs : List Value} {cs : List AV} (h : VRs R vs cs) (hR : ∀ (j : Nat) (v : Value), vs[j]? = some v → R (a.add j) = some v) (off s : Nat) : VR R (.pointer (some (a.add off))) (.rptr ((cs.drop off).take s)) :=
  VR.rptr_mk ((h.drop off).take s) fun j v hj => by
    rw [addr_add_add]
    refine hR _ _ ?_
    rw [List.getElem?_take] at hj
    split at hj
    · simpa using hj
    · cases hj

theorem pr_fieldAddr {ρ : Operand → AV} {t : TypeId} {x : Operand} {i : Nat} {off : Nat} {ag : Bool} {s : Nat} (hf : fieldOf P t i = some (off, ag, s)) {u : AV} (h : aFieldAddr off s (ρ x) u) :
    PRun P (fun ev => do pure (.value (← Instr.fieldAt t (ev x) i))) ρ u := by
  refine PRun.still fun R w ev ha _ => ?_
  have hx := ha x
  obtain ⟨hs0, h⟩ := h
  have key : ∀ a, ev x = .pointer (some a) → (do pure (Next.value (← Instr.fieldAt t (ev x) i)) : Sem Next).run P w = .ok (.value (.pointer (some (a.add off)))) w := by
    intro a hv
    unfold fieldOf at hf
    split at hf
    · rename_i fs hu'
      split at hf
      · rename_i f hfi
        split at hf
        · rename_i b s' hsh
          simp only [Option.some.injEq, Prod.mk.injEq] at hf
          obtain ⟨rfl, rfl, rfl⟩ := hf
          obtain ⟨h1, h2⟩ := shapeOf_run hsh w
          have : ¬ s' = 0 := by omega
          simp [Instr.fieldAt, run_underlying hu', hfi, hv, Instr.sureAddr, fieldPlace, h2, this]
        · cases hf
      · cases hf
    · cases hf
  split at h
  · rename_i a e
    rw [e] at hx
    exact ⟨_, key a hx.val_inv, by rw [h]; exact .val _⟩
  · rename_i cs e
    rw [e] at hx
    obtain ⟨a, vs, hv, hr, hR⟩ := hx.rptr_inv
    exact ⟨_, key a hv, by rw [h.2]; exact rptr_part hr hR off s⟩
  · rename_i v sz ii j e
    rw [e] at hx
    obtain ⟨g, n, cap, e1, hv⟩ := VR.eptr_inv hx
    refine ⟨_, key _ hv, ?_⟩
    rw [h, addr_lit_add, Nat.add_assoc, e1]
    exact .eptr
  · exact h.elim

theorem ixOf_inv {x : AV} {n : Int} (h : ixOf x = some n) : ∃ k, x = .val (.int k n) := by
  unfold ixOf at h
  split at h
  · rename_i k n'
    simp only [Option.some.injEq] at h
    subst h
    exact ⟨k, rfl⟩
  · cases h

theorem elemOf_slice {t : TypeId} {b : Bool} {s : Nat} (h : elemOf P t = some (.slice, b, s)) : ∃ e, P.underlying t = some (.slice e) ∧ shapeOf P e = some (b, s) := by
  unfold elemOf at h
  cases hu : P.underlying t with
  | none => rw [hu] at h; cases h
  | some d =>
    rw [hu] at h
    cases d with
    | slice e =>
      simp only at h
      cases hs : shapeOf P e with
      | none => rw [hs] at h; cases h
      | some bs => rw [hs] at h; simp only [Option.some.injEq, Prod.mk.injEq, true_and] at h; exact ⟨e, rfl, by rw [hs]; simp [← h.1, ← h.2]⟩
    | array n e =>
      simp only at h
      cases hs : shapeOf P e with
      | none => rw [hs] at h; cases h
      | some bs => rw [hs] at h; simp at h
    | _ => simp at h
theorem elemOf_array {t : TypeId} {n : Nat} {b : Bool} {s : Nat} (h : elemOf P t = some (.array n, b, s)) : ∃ e, P.underlying t = some (.array n e) ∧ shapeOf P e = some (b, s) := by
  unfold elemOf at h
  cases hu : P.underlying t with
  | none => rw [hu] at h; cases h
  | some d =>
    rw [hu] at h
    cases d with
    | slice e =>
      simp only at h
      cases hs : shapeOf P e with
      | none => rw [hs] at h; cases h
      | some bs => rw [hs] at h; simp at h
    | array n' e =>
      simp only at h
      cases hs : shapeOf P e with
      | none => rw [hs] at h; cases h
      | some bs => rw [hs] at h; simp only [Option.some.injEq, Prod.mk.injEq, Con.array.injEq] at h; exact ⟨e, by rw [h.1], by rw [hs]; simp [← h.2.1, ← h.2.2]⟩
    | _ => simp at h
theorem elemOf_string {t : TypeId} {b : Bool} {s : Nat} (h : elemOf P t = some (.string, b, s)) : P.underlying t = some .string := by
  unfold elemOf at h
  cases hu : P.underlying t with
  | none => rw [hu] at h; cases h
  | some d =>
    rw [hu] at h
    cases d with
    | string => rfl
    | slice e =>
      simp only at h
      cases hs : shapeOf P e with
      | none => rw [hs] at h; cases h
      | some bs => rw [hs] at h; simp at h
    | array n' e =>
      simp only at h
      cases hs : shapeOf P e with
      | none => rw [hs] at h; cases h
      | some bs => rw [hs] at h; simp at h
    | _ => simp at h
/-- The cells of one element. -/
theorem flat_get {l : List AV} {sz : Nat} (hsz : ∀ e ∈ l, e.cells.length = sz) : ∀ (i : Nat), i < l.length → ((flat l).drop (i * sz)).take sz = (l.getD i .undef).cells := by
  induction l with
  | nil => intro i hi; simp at hi
  | cons e l ih =>
    intro i hi
    have he := hsz e (by simp)
    have hfl : flat (e :: l) = e.cells ++ flat l := rfl
    cases i with
    | zero =>
      simp only [Nat.zero_mul, List.drop_zero, hfl, List.getD_cons_zero]
      rw [List.take_append_of_le_length (by omega), ← he, List.take_length]
    | succ i =>
      have hi' : i < l.length := by simpa using hi
      rw [hfl, List.getD_cons_succ, ← ih (fun x hx => hsz x (by simp [hx])) i hi', Nat.add_mul, Nat.one_mul, ← he, List.drop_append, Nat.add_comm]
      rw [List.drop_eq_nil_of_le (by omega)]
      simp only [List.nil_append]
      congr 2
      omega
theorem flat_length {l : List AV} {sz : Nat} (hsz : ∀ e ∈ l, e.cells.length = sz) : (flat l).length = l.length * sz := by
  induction l with
  | nil => simp [flat]
  | cons e l ih =>
    have hfl : flat (e :: l) = e.cells ++ flat l := rfl
    rw [hfl, List.length_append, ih (fun x hx => hsz x (by simp [hx])), hsz e (by simp), List.length_cons, Nat.add_mul, Nat.one_mul, Nat.add_comm]

theorem VR.lst_inv {R : RO} {v : Value} {sz : Nat} {l : List AV} {m : SM} (h : VR R v (.lst sz l m)) : ∃ ao cap vs, v = .slice ao l.length cap ∧ 0 < sz ∧ (∀ e ∈ l, e.cells.length = sz) ∧ VRs R vs (flat l) ∧
    (l ≠ [] → ∃ a, ao = some a ∧ ∀ (j : Nat) (v : Value), vs[j]? = some v → R (a.add j) = some v) ∧ SMok m ao l.length cap ∧ l.length ≤ maxLen ∧ ∀ v ∈ vs, v.oneCell' = true := by
  cases h with
  | lst vs hn hz hsz hl hv hR hm hb hone => subst hn; exact ⟨_, _, vs, rfl, hz, hsz, ⟨hl, hv⟩, hR, hm, hb, hone⟩

theorem pr_indexAddr {ρ : Operand → AV} {t : TypeId} {x i : Operand} {c : Con} {ag : Bool} {s : Nat} (he : elemOf P t = some (c, ag, s)) {u : AV} (h : aIndexAddr c s (ρ x) (ρ i) u) :
    PRun P (fun ev => do pure (.value (← Instr.indexAt t (ev x) (ev i)))) ρ u := by
  refine PRun.still fun R w ev ha _ => ?_
  have hx := ha x
  have hi := ha i
  unfold aIndexAddr at h
  cases hix : ixOf (ρ i) with
  | none => rw [hix] at h; cases c <;> exact h.elim
  | some n =>
    rw [hix] at h
    obtain ⟨k, hik⟩ := ixOf_inv hix
    rw [hik] at hi
    have hiv := hi.val_inv
    cases c with
    | string => exact h.elim
    | slice =>
      obtain ⟨e, hu, hsh⟩ := elemOf_slice he
      obtain ⟨h1, h2⟩ := shapeOf_run hsh w
      simp only at h
      have key : ∀ a len cap, ev x = .slice (some a) len cap → 0 ≤ n → n < len → (do pure (Next.value (← Instr.indexAt t (ev x) (ev i))) : Sem Next).run P w = .ok (.value (.pointer (some (a.add (n.toNat * s))))) w := by
        intro a len cap hv h0 hn
        simp [Instr.indexAt, run_underlying hu, hv, hiv, asIntOf, h0, hn, h2]
      split at h
      · rename_i sz l m ex
        rw [ex] at hx
        obtain ⟨rfl, h0, hn, hu'⟩ := h
        obtain ⟨ao, cap, vs, hv, hz, hsz, hr, hR, hm, hb, hone⟩ := hx.lst_inv
        have hne : l ≠ [] := by intro e'; subst e'; simp at hn; omega
        obtain ⟨a, rfl, hR'⟩ := hR hne
        have hlt : n.toNat < l.length := by omega
        refine ⟨_, key a _ _ hv h0 hn, ?_⟩
        rw [hu', ← flat_get hsz n.toNat hlt]
        exact rptr_part hr hR' _ _
      · rename_i v n' ex
        rw [ex] at hx
        obtain ⟨hv, hrow⟩ := hx.own_inv
        obtain ⟨h0, hn, hu'⟩ := h
        rcases hrow with ⟨_, hn0⟩ | ⟨g, cap, hs, _⟩
        · omega
        · rw [hs] at hv hu'
          refine ⟨_, key ⟨g, 0, none⟩ n' cap hv h0 hn, ?_⟩
          rw [hu', addr_lit_add, Nat.zero_add]
          exact VR.eptr (j := 0)
      · rename_i v z a n' ex
        rw [ex] at hx
        obtain ⟨rfl, h0, hn, hu'⟩ := h
        rcases hx.sub_inv with ⟨_, _, hn0, _⟩ | ⟨g, n0, cap, p, hs, hc, hp, hv⟩
        · omega
        · rw [hp (by omega)] at hv
          refine ⟨_, key ⟨g, a * z, none⟩ n' _ hv h0 hn, ?_⟩
          rw [hu', addr_lit_add, hs, ← Nat.add_mul]
          exact VR.eptr (j := 0)
      · rename_i a len cap ex
        rw [ex] at hx
        exact ⟨_, key a len cap hx.val_inv h.1 h.2.1, by rw [h.2.2]; exact .val _⟩
      · exact h.elim
    | array m =>
      obtain ⟨e, hu, hsh⟩ := elemOf_array he
      obtain ⟨h1, h2⟩ := shapeOf_run hsh w
      simp only at h
      obtain ⟨h0, hn, h⟩ := h
      have key : ∀ a, ev x = .pointer (some a) → (do pure (Next.value (← Instr.indexAt t (ev x) (ev i))) : Sem Next).run P w = .ok (.value (.pointer (some (a.add (n.toNat * s))))) w := by
        intro a hv
        simp [Instr.indexAt, run_underlying hu, hv, hiv, asIntOf, h0, hn, h2, Instr.sureAddr]
      split at h
      · rename_i a ex
        rw [ex] at hx
        exact ⟨_, key a hx.val_inv, by rw [h]; exact .val _⟩
      · rename_i cs ex
        rw [ex] at hx
        obtain ⟨a, vs, hv, hr, hR⟩ := hx.rptr_inv
        exact ⟨_, key a hv, by rw [h.2]; exact rptr_part hr hR _ _⟩
      · rename_i v z ee j ex
        rw [ex] at hx
        obtain ⟨g, n', cap, e1, hv⟩ := VR.eptr_inv hx
        refine ⟨_, key _ hv, ?_⟩
        rw [h, addr_lit_add, Nat.add_assoc, e1]
        exact .eptr
      · exact h.elim

theorem pr_index {ρ : Operand → AV} {t : TypeId} {x i : Operand} {c : Con} {ag : Bool} {s : Nat} (he : elemOf P t = some (c, ag, s)) {u : AV} (h : aIndex c ag s (ρ x) (ρ i) u) :
    PRun P (fun ev => do pure (.value (← Instr.index t (ev x) (ev i)))) ρ u := by
  refine PRun.still fun R w ev ha _ => ?_
  have hx := ha x
  have hi := ha i
  unfold aIndex at h
  cases hix : ixOf (ρ i) with
  | none => rw [hix] at h; cases c <;> exact h.elim
  | some n =>
    rw [hix] at h
    obtain ⟨k, hik⟩ := ixOf_inv hix
    rw [hik] at hi
    have hiv := hi.val_inv
    cases c with
    | slice => exact h.elim
    | string =>
      have hu := elemOf_string he
      simp only at h
      split at h
      · rename_i str ex
        rw [ex] at hx
        obtain ⟨h0, hlt, hu'⟩ := h
        refine ⟨_, ?_, by rw [hu']; exact .val _⟩
        have hg : str[n.toNat]? = some str[n.toNat] := getElem?_pos str n.toNat hlt
        simp [Instr.index, run_underlying hu, hx.val_inv, hiv, asIntOf, h0, hg]
      · exact h.elim
    | array m =>
      obtain ⟨e, hu, hsh⟩ := elemOf_array he
      obtain ⟨h1, h2⟩ := shapeOf_run hsh w
      simp only at h
      obtain ⟨h0, hn, h⟩ := h
      split at h
      · rename_i cs ex
        rw [ex] at hx
        obtain ⟨vs, hv, hr⟩ := hx.agg_inv
        obtain ⟨hl, hone, hu'⟩ := h
        have := part_run (P := P) hsh (vs := vs) (off := n.toNat * s) (by rw [hr.1]; rw [Nat.add_mul, Nat.one_mul] at hl; exact hl) hone w
        refine ⟨mkC ag ((vs.drop (n.toNat * s)).take s), ?_, by rw [hu']; exact mkV_rel ((hr.drop _).take _) _⟩
        simp [Instr.index, run_underlying hu, hv, hiv, asIntOf, h0, hn, h2, this]
      · exact h.elim

end Go.Ab
