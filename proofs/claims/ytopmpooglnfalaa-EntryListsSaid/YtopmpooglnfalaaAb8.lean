/- A logic over abstract states (part 8): memory that is read and written: variables, growable rows; calls. -/
import Derived.Test.YtopmpooglnfalaaAb7
import Derived.Laws.CopyRow
import Derived.Laws.MakeOwn
import Derived.Laws.AppendOwn
import Derived.Maps.AppendAt
set_option linter.unusedVariables false
set_option linter.unusedSimpArgs false
namespace Go.Ab
variable {P : Program}

/-- What a variable at an address holds. -/
def loadA (ag : Bool) (s : Nat) (p : AV) (σ : Store) (u : AV) : Prop := 0 < s ∧ (ag = false → s = 1) ∧ match p with
  | .rptr cs => s ≤ cs.length ∧ u = mkV ag (cs.take s)
  | .val (.pointer (some a)) => a.spot = none ∧ ∃ t cs, Ent.var a.block t cs ∈ σ ∧ a.off + s ≤ cs.length ∧ u = mkV ag ((cs.drop a.off).take s)
  | .eptr v sz i j => ∃ E l fl, Ent.row v E sz l fl ∈ σ ∧ i < l.length ∧ j + s ≤ sz ∧ u = mkV ag (((l.getD i .undef).cells.drop j).take s)
  | _ => False

theorem load_run {t : TypeId} {ag : Bool} {s : Nat} (hsh : shapeOf P t = some (ag, s)) {w : World} {a : Addr} {vs : List Value} (hc : ∀ (j : Nat) (v : Value), vs[j]? = some v → w.cell? (a.add j) = some v) (hl : vs.length = s) (h1 : ag = false → s = 1) :
    (loadVar t a).run P w = .ok (mkC ag vs) w := by
  obtain ⟨q1, q2⟩ := shapeOf_run hsh w
  unfold loadVar
  cases ag with
  | true =>
    have := run_loadCells_list (P := P) w a vs hc
    rw [hl] at this
    simp [q1, q2, this, mkC]
  | false =>
    have h1 := h1 rfl
    subst h1
    cases vs with
    | nil => simp at hl
    | cons v vs =>
      have := hc 0 v rfl
      rw [addr_add_zero] at this
      simp [q1, this, mkC]

theorem cells_at {w : World} {a : Addr} {vs : List Value} (hc : ∀ (j : Nat) (v : Value), vs[j]? = some v → w.cell? (a.add j) = some v) (off s : Nat) : ∀ (j : Nat) (v : Value), ((vs.drop off).take s)[j]? = some v → w.cell? ((a.add off).add j) = some v := by
  intro j v hj
  rw [addr_add_add]
  rw [List.getElem?_take] at hj
  split at hj
  · exact hc _ _ (by simpa using hj)
  · cases hj

/-- The cells of a variable of the store. -/
theorem var_cells {R : RO} {w : World} {σ : Store} (hs : St R w σ) {b : Nat} {t : TypeId} {cs : List AV} (hm : Ent.var b t cs ∈ σ) : ∃ vs, VRs R vs cs ∧ (∀ v ∈ vs, v.oneCell' = true) ∧ w.heap[b]? = some (.cells (List.toArray vs) t (0, 0)) ∧
    ∀ (j : Nat) (v : Value), vs[j]? = some v → w.cell? ((⟨b, 0, none⟩ : Addr).add j) = some v := by
  obtain ⟨⟨vs, h1, h2, h3⟩, _⟩ := hs.ents _ hm
  refine ⟨vs, h2, h3, h1, fun j v hj => ?_⟩
  rw [addr_lit_add, Nat.zero_add]
  simp [World.cell?, h1, hj]
theorem row_cells {R : RO} {w : World} {σ : Store} (hs : St R w σ) {v : Value} {E : TypeId} {sz : Nat} {l : List AV} {fl : Nat} (hm : Ent.row v E sz l fl ∈ σ) : ∃ vs, VRs R vs (flat l) ∧ (∀ v ∈ vs, v.oneCell' = true) ∧ w.ownsRow 0 E sz v l.length vs ∧ 0 < sz ∧ (∀ e ∈ l, e.cells.length = sz) ∧
    ∀ g n cap, v = .slice (some ⟨g, 0, none⟩) n cap → ∀ (j : Nat) (x : Value), vs[j]? = some x → w.cell? ((⟨g, 0, none⟩ : Addr).add j) = some x := by
  obtain ⟨h1, h2, ⟨vs, h3, h4, h5⟩, h6, h7⟩ := hs.ents _ hm
  exact ⟨vs, h4, h5, h3, h1, h2, fun g n cap hv j x hj => h3.cells (g := g) (by rw [hv]; rfl) j x hj⟩

theorem rd_load {ρ : Operand → AV} {σ : Store} {t : TypeId} {x : Operand} {ag : Bool} {s : Nat} (hsh : shapeOf P t = some (ag, s)) {u : AV} (h : loadA ag s (ρ x) σ u) {o : Oper} (ho : o.op = .load t x) {k kp : AV → Store → Prop} (hk : k u σ) : AOp P o ρ σ k kp := by
  refine AOp.ofRun fun R w ev ha hs => ?_
  have hx := ha x
  obtain ⟨hs0, hag, h⟩ := h
  have fin : ∀ (a : Addr) (vs : List Value) (cs : List AV), ev x = .pointer (some a) → VRs R vs cs → cs.length = s → u = mkV ag cs → (∀ (j : Nat) (v : Value), vs[j]? = some v → w.cell? (a.add j) = some v) →
      ∃ v w' u' R' σ', (execOp ev o).run P w = .ok (.value v) w' ∧ k u' σ' ∧ VR R' v u' ∧ St R' w' σ' ∧ Ext R w σ R' w' σ' := by
    intro a vs cs hv hr hl hu hc
    refine ⟨mkC ag vs, w, u, R, σ, ?_, hk, by rw [hu]; exact mkV_rel hr ag, hs, Ext.refl _ _ _⟩
    simp [execOp, ho, Instr.loadAt, Instr.sureAddr, hv, load_run hsh hc (hr.1.trans hl) hag]
  split at h
  · rename_i cs e
    rw [e] at hx
    obtain ⟨a, vs, hv, hr, hR⟩ := hx.rptr_inv
    have hh := cells_at (w := w) (a := a) (vs := vs) (fun j v hj => hs.ro _ _ (hR j v hj)) 0 s
    rw [addr_add_zero, List.drop_zero] at hh
    exact fin a _ _ hv (hr.take s) (by rw [List.length_take]; omega) h.2 hh
  · rename_i a e
    rw [e] at hx
    obtain ⟨hsp, t', cs, hm, hl, hu⟩ := h
    obtain ⟨vs, hr, _, _, hc⟩ := var_cells hs hm
    obtain ⟨b, off, sp⟩ := a
    simp only at hsp hl hu hm hc
    subst hsp
    have hh := cells_at hc off s
    rw [addr_lit_add, Nat.zero_add] at hh
    exact fin _ _ _ hx.val_inv ((hr.drop off).take s) (by rw [List.length_take, List.length_drop]; omega) hu hh
  · rename_i v sz i j e
    rw [e] at hx
    obtain ⟨E, l, fl, hm, hi, hj, hu⟩ := h
    obtain ⟨g, n, cap, hv, he⟩ := VR.eptr_inv hx
    obtain ⟨vs, hr, _, _, hsz0, hsz, hc⟩ := row_cells hs hm
    have hh := cells_at (hc g n cap hv) (i * sz) sz
    have hr' := (hr.drop (i * sz)).take sz
    rw [flat_get hsz i hi] at hr'
    have hh2 := cells_at hh j s
    rw [addr_lit_add, addr_lit_add, Nat.zero_add] at hh2
    have hlen : (l.getD i .undef).cells.length = sz := by
      have hmem : l.getD i .undef ∈ l := by rw [List.getD_eq_getElem?_getD, List.getElem?_eq_getElem hi]; exact List.getElem_mem _
      exact hsz _ hmem
    exact fin _ _ _ he ((hr'.drop j).take s) (by rw [List.length_take, List.length_drop, hlen]; omega) hu hh2
  · exact h.elim

/-! ### New variables -/
theorem st_newVar {R : RO} {w : World} {σ : Store} (hs : St R w σ) {vs : List Value} {cs : List AV} (hr : VRs R vs cs) (ho : ∀ v ∈ vs, v.oneCell' = true) (t : TypeId) :
    St R (w.alloc (.cells (List.toArray vs) t)) (.var w.heap.size t cs :: σ) ∧ Ext R w σ R (w.alloc (.cells (List.toArray vs) t)) (.var w.heap.size t cs :: σ) ∧ w.heap.size ∉ blks σ := by
  have hnew : w.heap.size ∉ blks σ := fun h => Nat.lt_irrefl _ (hs.lt h)
  have hold : ∀ k, k < w.heap.size → (w.alloc (.cells (List.toArray vs) t)).heap[k]? = w.heap[k]? := fun k hk => heap_alloc_old w _ k hk
  refine ⟨⟨fun a v ha => ?_, ?_, ?_⟩, ⟨fun _ _ h => h, rfl, rfl, rfl, by simp, fun k hk _ => hold k hk, ?_, fun _ _ h => .inl h⟩, hnew⟩
  · rw [World.cell?_of_block (hold _ (hs.roLt ha))]; exact hs.ro a v ha
  · intro e he
    rcases List.mem_cons.1 he with rfl | he
    · refine ⟨⟨vs, by rw [heap_alloc_new], hr, ho⟩, fun a x ha hab => ?_⟩
      have := hs.roLt ha; omega
    · exact (hs.ents e he).keep (fun _ _ h => h) (fun b hb => hold b ((hs.ents e he).lt hb)) fun b hb a x ha hab => ha
  · refine List.pairwise_cons.2 ⟨fun e he b hb hb' => ?_, hs.apart⟩
    simp only [Ent.blk, Option.some.injEq] at hb
    subst hb
    exact hnew (mem_blks.2 ⟨e, he, hb'⟩)
  · intro k hk
    obtain ⟨e, he, hb⟩ := mem_blks.1 hk
    rcases List.mem_cons.1 he with rfl | he
    · simp only [Ent.blk, Option.some.injEq] at hb; subst hb; exact .inr (Nat.le_refl _)
    · exact .inl (mem_blks.2 ⟨e, he, hb⟩)

def ptrTo (b : Nat) : AV := .val (.pointer (some ⟨b, 0, none⟩))
def aNewVar (t : TypeId) (cs : List AV) (σ : Store) (k : AV → Store → Prop) : Prop := (∀ c ∈ cs, c.one = true) ∧ ∀ b, b ∉ blks σ → k (ptrTo b) (.var b t cs :: σ)

def zeroCells (P : Program) (t : TypeId) : Option (List Value) := match P.info? t with
  | some i => match i.zero with
    | some z => some z.cells.toList
    | none => none
  | none => none
theorem ef_alloc {ρ : Operand → AV} {σ : Store} {t : TypeId} {zs : List Value} (hz : zeroCells P t = some zs) {o : Oper} (ho : o.op = .alloc t) {k kp : AV → Store → Prop} (h : aNewVar t (zs.map .val) σ k) : AOp P o ρ σ k kp := by
  refine AOp.ofRun fun R w ev ha hs => ?_
  obtain ⟨h1, h2⟩ := h
  unfold zeroCells at hz
  cases hi : P.info? t with
  | none => rw [hi] at hz; cases hz
  | some i =>
    rw [hi] at hz
    cases hiz : i.zero with
    | none => simp only [hiz] at hz; cases hz
    | some z =>
      simp only [hiz, Option.some.injEq] at hz
      have hone : ∀ v ∈ zs, v.oneCell' = true := ones_rel (VRs.ofVals R zs) h1
      obtain ⟨g1, g2, g3⟩ := st_newVar hs (VRs.ofVals R zs) hone t
      refine ⟨.pointer (some ⟨w.heap.size, 0, none⟩), _, _, R, _, ?_, h2 _ g3, .val _, g1, g2⟩
      have hzc : z.cells = zs.toArray := by rw [← hz]
      simp [execOp, ho, Instr.alloc, zeroValue, typeInfo, hi, hiz, newVar, newRow, hzc]
theorem ef_box {ρ : Operand → AV} {σ : Store} {t : TypeId} {x : Operand} {o : Oper} (ho : o.op = .box t x) {k kp : AV → Store → Prop} (h : aNewVar t (ρ x).cells σ k) : AOp P o ρ σ k kp := by
  refine AOp.ofRun fun R w ev ha hs => ?_
  obtain ⟨h1, h2⟩ := h
  have hr := cells_rel (ha x) h1
  obtain ⟨g1, g2, g3⟩ := st_newVar hs hr (ones_rel hr h1) t
  refine ⟨.pointer (some ⟨w.heap.size, 0, none⟩), _, _, R, _, ?_, h2 _ g3, .val _, g1, g2⟩
  simp [execOp, ho, Instr.box, newVar, newRow]

/-! ### A change of one block -/
theorem st_change {R : RO} {w : World} {σ1 σ2 : Store} {e e' : Ent} (hs : St R w (σ1 ++ e :: σ2)) {b : Nat} (hb : e.blk = some b) (hb' : e'.blk = some b) {w' : World} (hos : w'.os = w.os) (htape : w'.tape = w.tape) (hout : w'.output = w.output) (hsz : w'.heap.size = w.heap.size)
    (hold : ∀ k, k ≠ b → w'.heap[k]? = w.heap[k]?) (hro : ∀ a v, R a = some v → a.block = b → w'.cell? a = some v) (he : EntOk R w' e') : St R w' (σ1 ++ e' :: σ2) ∧ Ext R w (σ1 ++ e :: σ2) R w' (σ1 ++ e' :: σ2) := by
  have hp := List.pairwise_append.1 hs.apart
  have hp2 := List.pairwise_cons.1 hp.2.1
  refine ⟨⟨fun a v ha => ?_, fun x hx => ?_, ?_⟩, ⟨fun _ _ h => h, hos, htape, hout, by omega, fun k hk hn => hold k fun h => hn ?_, fun k hk => .inl ?_, fun _ _ h => .inl h⟩⟩
  · by_cases hab : a.block = b
    · exact hro a v ha hab
    · rw [World.cell?_of_block (hold _ hab)]; exact hs.ro a v ha
  · have keep : x ∈ σ1 ++ e :: σ2 → x.blk ≠ some b → EntOk R w' x := fun hm hne => (hs.ents x hm).keep (fun _ _ h => h) (fun c hc => hold c (fun h => hne (by rw [hc, h]))) fun _ _ _ _ h _ => h
    rcases List.mem_append.1 hx with hx | hx
    · exact keep (List.mem_append.2 (.inl hx)) fun h => hp.2.2 x hx e (List.mem_cons_self ..) b h hb
    · rcases List.mem_cons.1 hx with rfl | hx
      · exact he
      · exact keep (List.mem_append.2 (.inr (List.mem_cons_of_mem _ hx))) fun h => hp2.1 x hx b hb h
  · refine List.pairwise_append.2 ⟨hp.1, List.pairwise_cons.2 ⟨fun x hx c hc => ?_, hp2.2⟩, fun x hx y hy c hc => ?_⟩
    · rw [hb'] at hc; cases hc; exact hp2.1 x hx b hb
    · rcases List.mem_cons.1 hy with rfl | hy
      · intro h
        rw [hb'] at h; cases h
        exact hp.2.2 x hx e (List.mem_cons_self ..) b hc hb
      · exact hp.2.2 x hx y (List.mem_cons_of_mem _ hy) c hc
  · subst h
    exact mem_blks.2 ⟨e, by simp, hb⟩
  · obtain ⟨x, hx, hxb⟩ := mem_blks.1 hk
    rcases List.mem_append.1 hx with hx | hx
    · exact mem_blks.2 ⟨x, List.mem_append.2 (.inl hx), hxb⟩
    · rcases List.mem_cons.1 hx with rfl | hx
      · rw [hb'] at hxb; cases hxb; exact mem_blks.2 ⟨e, by simp, hb⟩
      · exact mem_blks.2 ⟨x, List.mem_append.2 (.inr (List.mem_cons_of_mem _ hx)), hxb⟩

/-- An element again, of its cells. -/
def mkE (cs : List AV) : AV := match cs with
  | [c] => c
  | cs => .agg cs
theorem mkE_cells {cs : List AV} (h : ∀ c ∈ cs, c.one = true) : (mkE cs).cells = cs := by
  unfold mkE
  split
  · rename_i c
    have := h c (by simp)
    cases c <;> first | rfl | cases this
  · rfl

theorem list_window {α : Type} (F new : List α) (p sz j : Nat) (hp : p + sz ≤ F.length) (hj : j + new.length ≤ sz) :
    F.take p ++ (((F.drop p).take sz).take j ++ new ++ ((F.drop p).take sz).drop (j + new.length)) ++ F.drop (p + sz) = F.take (p + j) ++ new ++ F.drop (p + j + new.length) := by
  have e1 : F.take (p + j) = F.take p ++ (F.drop p).take j := List.take_add
  have e2 : F.drop (p + j + new.length) = ((F.drop p).take sz).drop (j + new.length) ++ F.drop (p + sz) := by
    have : F.drop p = (F.drop p).take sz ++ F.drop (p + sz) := by rw [← List.drop_drop, List.take_append_drop]
    have h2 : F.drop (p + j + new.length) = (F.drop p).drop (j + new.length) := by rw [List.drop_drop]; congr 1; omega
    rw [h2]
    conv => lhs; rw [this]
    rw [List.drop_append_of_le_length (by rw [List.length_take, List.length_drop]; omega)]
  have e3 : ((F.drop p).take sz).take j = (F.drop p).take j := by rw [List.take_take]; congr 1; omega
  rw [e1, e2, e3]
  simp only [List.append_assoc]
theorem flat_set {l : List AV} {sz i j : Nat} (hsz : ∀ e ∈ l, e.cells.length = sz) (hi : i < l.length) {new : List AV} (hj : j + new.length ≤ sz) (hone : ∀ c ∈ splice (l.getD i .undef).cells j new, c.one = true) :
    flat (l.set i (mkE (splice (l.getD i .undef).cells j new))) = splice (flat l) (i * sz + j) new := by
  have e1 : l.set i (mkE (splice (l.getD i .undef).cells j new)) = l.take i ++ [mkE (splice (l.getD i .undef).cells j new)] ++ l.drop (i + 1) := by
    rw [List.set_eq_take_append_cons_drop, if_pos hi]; simp
  have e2 : flat [mkE (splice (l.getD i .undef).cells j new)] = splice (l.getD i .undef).cells j new := by
    show (mkE _).cells ++ [] = _
    rw [mkE_cells hone, List.append_nil]
  have hb : (i + 1) * sz ≤ l.length * sz := Nat.mul_le_mul_right _ hi
  rw [Nat.add_mul, Nat.one_mul] at hb
  rw [e1, flat_append, flat_append, flat_take hsz, flat_drop hsz, e2, ← flat_get hsz i hi, Nat.add_mul, Nat.one_mul]
  exact list_window (flat l) new (i * sz) sz j (by rw [flat_length hsz]; omega) hj

def storeA (s : Nat) (p x : AV) (σ : Store) (k : AV → Store → Prop) : Prop := x.cells.length = s ∧ (∀ c ∈ x.cells, c.one = true) ∧ match p with
  | .val (.pointer (some a)) => a.spot = none ∧ ∃ σ1 σ2 t cs, σ = σ1 ++ .var a.block t cs :: σ2 ∧ a.off + s ≤ cs.length ∧ k .undef (σ1 ++ .var a.block t (splice cs a.off x.cells) :: σ2)
  | .eptr v sz i j => ∃ σ1 σ2 E l fl, σ = σ1 ++ .row v E sz l fl :: σ2 ∧ fl ≤ i ∧ i < l.length ∧ j + s ≤ sz ∧ (∀ c ∈ (l.getD i .undef).cells, c.one = true) ∧ k .undef (σ1 ++ .row v E sz (l.set i (mkE (splice (l.getD i .undef).cells j x.cells))) fl :: σ2)
  | _ => False

theorem storeVar_run {t : TypeId} {ag : Bool} {s : Nat} (hsh : shapeOf P t = some (ag, s)) {w : World} {g o : Nat} {tt : TypeId} {cur : Array Value} (hg : w.heap[g]? = some (.cells cur tt (0, 0))) {v : Value} (hl : v.cells.size = s) (hfit : o + s ≤ cur.size) (ho : ∀ x ∈ v.cells.toList, x.oneCell' = true) :
    (storeVar t ⟨g, o, none⟩ v).run P w = .ok () (w.setRow g (cur.toList.take o ++ v.cells.toList ++ cur.toList.drop (o + s)).toArray) := by
  obtain ⟨q1, q2⟩ := shapeOf_run hsh w
  have := run_storeCells_at P g o tt v.cells.toList 0 cur w hg (by simp [hl]; omega) ho
  simp only [Nat.add_zero, Array.length_toList, hl] at this
  simp [storeVar, q2, hl, this]

theorem ef_store {ρ : Operand → AV} {σ : Store} {t : TypeId} {x y : Operand} {ag : Bool} {s : Nat} (hsh : shapeOf P t = some (ag, s)) {o : Oper} (ho : o.op = .store t x y) {k kp : AV → Store → Prop} (h : storeA s (ρ x) (ρ y) σ k) : AOp P o ρ σ k kp := by
  refine AOp.ofSkip fun R w ev ha hs => ?_
  have hx := ha x
  obtain ⟨hl, hone, h⟩ := h
  have hy := cells_rel (ha y) hone
  have hyl : (ev y).cells.size = s := by have := hy.1; simp at this; omega
  have hyo := ones_rel hy hone
  split at h
  · rename_i a e
    rw [e] at hx
    obtain ⟨hsp, σ1, σ2, t', cs, rfl, hfit, hk⟩ := h
    obtain ⟨b, off, sp⟩ := a
    simp only at hsp hfit hk
    subst hsp
    obtain ⟨vs, hr, hvo, hb, hc⟩ := var_cells hs (b := b) (t := t') (cs := cs) (by simp)
    have hvl := hr.1
    have hrun := storeVar_run (P := P) hsh hb hyl (o := off) (by simp; omega) hyo
    simp only at hrun
    have hnew : VRs R (vs.take off ++ (ev y).cells.toList ++ vs.drop (off + s)) (splice cs off (ρ y).cells) := by
      have := ((hr.take off).append hy).append (hr.drop (off + s))
      unfold splice
      rw [hl]
      exact this
    have hsz := (w.setRow b (vs.take off ++ (ev y).cells.toList ++ vs.drop (off + s)).toArray)
    have hent : EntOk R (w.setRow b (vs.take off ++ (ev y).cells.toList ++ vs.drop (off + s)).toArray) (.var b t' (splice cs off (ρ y).cells)) := by
      refine ⟨⟨_, setRow_heap w b _ _ _ _ hb, hnew, ?_⟩, (hs.ents (.var b t' cs) (by simp)).2⟩
      intro v hv
      simp only [List.mem_append] at hv
      rcases hv with (hv | hv) | hv
      · exact hvo v (List.mem_of_mem_take hv)
      · exact hyo v hv
      · exact hvo v (List.mem_of_mem_drop hv)
    obtain ⟨g1, g2⟩ := st_change hs (e := .var b t' cs) (e' := .var b t' (splice cs off (ρ y).cells)) (b := b) rfl rfl (w' := w.setRow b (vs.take off ++ (ev y).cells.toList ++ vs.drop (off + s)).toArray) (by simp) (by simp) (by simp) (by simp)
      (fun k hk => setRow_other w b k _ hk) (fun a v ha hab => absurd hab ((hs.ents (.var b t' cs) (by simp)).2 a v ha)) hent
    refine ⟨_, R, _, ?_, hk, g1, g2⟩
    simp [execOp, ho, Instr.storeAt, Instr.sureAddr, hx.val_inv, hrun]
  · rename_i v sz i j e
    rw [e] at hx
    obtain ⟨σ1, σ2, E, l, fl, rfl, hfl, hi, hj, hco, hk⟩ := h
    obtain ⟨g, n, cap, hv, he⟩ := VR.eptr_inv hx
    obtain ⟨vs, hr, hvo, hown, hsz0, hsz, hc⟩ := row_cells hs (v := v) (E := E) (sz := sz) (l := l) (fl := fl) (by simp)
    have hent0 := hs.ents (.row v E sz l fl) (by simp)
    obtain ⟨_, _, _, hmax, hflo⟩ := hent0
    subst hv
    have hlt : i < l.length := hi
    rcases hown.2 with ⟨h0, _⟩ | ⟨g', cap', cur, hvv, _, hh, hnc, hcm, hcs, htake⟩
    · cases h0
    · simp only [Value.slice.injEq, Option.some.injEq, Addr.mk.injEq, and_true, true_and] at hvv
      obtain ⟨rfl, hn, rfl⟩ := hvv
      have hbnd : (i + 1) * sz ≤ l.length * sz := Nat.mul_le_mul_right _ hlt
      rw [Nat.add_mul, Nat.one_mul] at hbnd
      have hcap : l.length * sz ≤ cap * sz := Nat.mul_le_mul_right _ hnc
      have hrun := storeVar_run (P := P) hsh hh hyl (o := i * sz + j) (by omega) hyo
      have helen : (l.getD i .undef).cells.length = sz := by
        have hmem : l.getD i .undef ∈ l := by rw [List.getD_eq_getElem?_getD, List.getElem?_eq_getElem hi]; exact List.getElem_mem _
        exact hsz _ hmem
      have hspl : ∀ c ∈ splice (l.getD i .undef).cells j (ρ y).cells, c.one = true := by
        intro c hcm
        unfold splice at hcm
        simp only [List.mem_append] at hcm
        rcases hcm with (hcm | hcm) | hcm
        · exact hco c (List.mem_of_mem_take hcm)
        · exact hone c hcm
        · exact hco c (List.mem_of_mem_drop hcm)
      have hsplen : (splice (l.getD i .undef).cells j (ρ y).cells).length = sz := by rw [splice_length (by rw [hl, helen]; omega), helen]
      have hflat := flat_set hsz hi (j := j) (new := (ρ y).cells) (by rw [hl]; exact hj) hspl
      have hvl : vs.length = l.length * sz := by rw [hr.1, flat_length hsz]
      have hcs' : cur.size = cap * sz := hcs
      have hnew : VRs R (vs.take (i * sz + j) ++ (ev y).cells.toList ++ vs.drop (i * sz + j + s)) (splice (flat l) (i * sz + j) (ρ y).cells) := by
        have := ((hr.take (i * sz + j)).append hy).append (hr.drop (i * sz + j + s))
        unfold splice
        rw [hl]
        exact this
      have hylen : (ev y).cells.toList.length = s := by simp [hyl]
      have hwin : (cur.toList.take (i * sz + j) ++ (ev y).cells.toList ++ cur.toList.drop (i * sz + j + s)).take (l.length * sz) = vs.take (i * sz + j) ++ (ev y).cells.toList ++ vs.drop (i * sz + j + s) := by
        rw [← htake, List.take_take, List.drop_take, List.take_append, List.take_append, List.take_take]
        simp only [List.length_append, List.length_take, Array.length_toList, hylen]
        rw [List.take_of_length_le (l := (ev y).cells.toList) (by rw [hylen]; omega)]
        congr 1
        · congr 2; omega
        · congr 1; omega
      refine ⟨w.setRow g (cur.toList.take (i * sz + j) ++ (ev y).cells.toList ++ cur.toList.drop (i * sz + j + s)).toArray, R, _, ?_, hk, ?_⟩
      · simp [execOp, ho, Instr.storeAt, Instr.sureAddr, he, hrun]
      · refine st_change hs (e := .row (.slice (some ⟨g, 0, none⟩) n cap) E sz l fl) (e' := .row (.slice (some ⟨g, 0, none⟩) n cap) E sz (l.set i (mkE (splice (l.getD i .undef).cells j (ρ y).cells))) fl) (b := g) rfl rfl (by simp) (by simp) (by simp) (by simp) (fun k hk => setRow_other w g k _ hk) ?_ ?_
        · intro a v ha hab
          have hold := hs.ro a v ha
          have hoff := (hflo a v ha (by simp [Value.ownBlock, hab])).1
          have hsp : a.spot = none := by
            unfold World.cell? at hold
            split at hold
            · cases hsp : a.spot with
              | none => rfl
              | some q => rw [hsp] at hold; simp at hold
            · cases hold
          obtain ⟨ab, ao, asp⟩ := a
          simp only at hab hoff hsp
          subst hab; subst hsp
          have hcell := cell_setRow_same w ab ao cur (cur.toList.take (i * sz + j) ++ (ev y).cells.toList ++ cur.toList.drop (i * sz + j + s)).toArray E (0, 0) hh
          rw [hcell]
          have hflsz : fl * sz ≤ i * sz := Nat.mul_le_mul_right _ hfl
          have hlt' : ao < i * sz + j := by omega
          rw [List.getElem?_toArray, List.append_assoc, List.getElem?_append_left (by rw [List.length_take, Array.length_toList]; omega), List.getElem?_take, if_pos hlt']
          have := cell_of_row w ab ao cur E (0, 0) hh
          rw [this] at hold
          simpa using hold
        · refine ⟨hsz0, ?_, ⟨vs.take (i * sz + j) ++ (ev y).cells.toList ++ vs.drop (i * sz + j + s), ⟨?_, .inr ⟨g, cap, _, by rw [List.length_set, hn], Nat.zero_le _, setRow_heap w g cur _ E _ hh, ?_, hcm, ?_, by rw [List.length_set]; exact hwin⟩⟩, by rw [hflat]; exact hnew, ?_⟩, by rw [List.length_set]; exact hmax, by rw [List.length_set]; exact hflo⟩
          · intro e he
            rcases List.mem_or_eq_of_mem_set he with he | he
            · exact hsz e he
            · rw [he, mkE_cells hspl]; exact hsplen
          · rw [List.length_set, hnew.1, splice_length (by rw [hl, flat_length hsz]; omega), flat_length hsz]
          · rw [List.length_set]; exact hnc
          · simp only [List.size_toArray, List.length_append, List.length_take, Array.length_toList, List.length_drop, hylen, hcs']; omega
          · intro v hv
            simp only [List.mem_append] at hv
            rcases hv with (hv | hv) | hv
            · exact hvo v (List.mem_of_mem_take hv)
            · exact hyo v hv
            · exact hvo v (List.mem_of_mem_drop hv)
  · exact h.elim

end Go.Ab
