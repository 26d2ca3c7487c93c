/- A logic over abstract states (part 10): append as an operation; copy; calls. -/
import Derived.Test.YtopmpooglnfalaaAb9
set_option linter.unusedVariables false
set_option linter.unusedSimpArgs false
namespace Go.Ab
variable {P : Program}

/-- What is appended. -/
def srcA (sz : Nat) (σ : Store) (x : AV) (ys : List AV) : Prop := match x with
  | .lst z l _ => z = sz ∧ ys = l
  | .own v n => ∃ E l fl, Ent.row v E sz l fl ∈ σ ∧ ys = l
  | .sub v z a n => z = sz ∧ ∃ E l fl, Ent.row v E sz l fl ∈ σ ∧ a + n ≤ l.length ∧ ys = (l.drop a).take n
  | .val (.slice none 0 0) => ys = []
  | .val (.slice (some a) n cap) => sz = 1 ∧ a.spot = none ∧ ∃ t cs, Ent.var a.block t cs ∈ σ ∧ a.off + n ≤ cs.length ∧ (∀ c ∈ cs, c.cells.length = 1) ∧ ys = (cs.drop a.off).take n
  | .val (.string s) => sz = 1 ∧ ys = s.data.toList.map byt
  | _ => False

def isStringOrSlice (P : Program) (t : TypeId) : Bool := match P.underlying t with
  | some (.slice _) => true
  | some .string => true
  | _ => false
theorem isSoS_run {t : TypeId} (h : isStringOrSlice P t = true) : (∃ e, P.underlying t = some (.slice e)) ∨ P.underlying t = some .string := by
  unfold isStringOrSlice at h
  split at h
  · rename_i e hu; exact .inl ⟨e, hu⟩
  · rename_i hu; exact .inr hu
  · cases h

theorem flat_ones {cs : List AV} (h : ∀ c ∈ cs, c.cells.length = 1) (ho : ∀ c ∈ cs, ∃ x, c.cells = [x] → True) : True := trivial

/-- A variable's cells are told one by one. -/
def plainCell (c : AV) : Prop := c.cells = [c]
theorem flat_plain {cs : List AV} (h : ∀ c ∈ cs, plainCell c) : flat cs = cs := by
  induction cs with
  | nil => rfl
  | cons c cs ih =>
    have : flat (c :: cs) = c.cells ++ flat cs := rfl
    rw [this, ih (fun x hx => h x (by simp [hx])), h c (by simp)]
    rfl

theorem src_ok {R : RO} {w : World} {σ : Store} (hs : St R w σ) {xt : TypeId} (hxt : isStringOrSlice P xt = true) {sz : Nat} (hz : 0 < sz) {v : Value} {x : AV} (hv : VR R v x) {ys : List AV} (h : srcA sz σ x ys) (hp : sz = 1 → ∀ c ∈ ys, c.cells.length = 1) :
    ∃ news, SrcOk P w v xt sz ys.length news ∧ VRs R news (flat ys) ∧ (∀ u ∈ news, u.oneCell' = true) ∧ ∀ y ∈ ys, y.cells.length = sz := by
  have hty := isSoS_run hxt
  unfold srcA at h
  split at h
  · rename_i z l m
    obtain ⟨rfl, rfl⟩ := h
    obtain ⟨ao, cap, vs, hv, hz0, hsz, hr, hR, hm, hb, hone⟩ := hv.lst_inv
    subst hv
    have hl : vs.length = ys.length * z := by rw [hr.1, flat_length hsz]
    refine ⟨vs, ⟨fun w' => rfl, hty, fun w' hw' => ?_, hl⟩, hr, hone, hsz⟩
    cases ao with
    | none =>
      have : ys = [] := by
        cases ys with
        | nil => rfl
        | cons y ys => obtain ⟨a, ha, _⟩ := hR (by simp); cases ha
      subst this
      have : vs = [] := List.eq_nil_of_length_eq_zero (by simpa using hl)
      subst this
      simp [Builtin.firstCells]
    | some a =>
      refine run_firstCells_some w' z ys.length a ys.length cap vs hl fun j u hj => ?_
      by_cases hne : ys = []
      · subst hne
        have : vs = [] := List.eq_nil_of_length_eq_zero (by simpa using hl)
        subst this; simp at hj
      · obtain ⟨a', ha, hc⟩ := hR hne
        cases ha
        rw [World.cell?_of_block (w := w) (by rw [hw'])]
        exact hs.ro _ _ (hc j u hj)
  · rename_i v0 n
    obtain ⟨E, l, fl, hm, rfl⟩ := h
    obtain ⟨rfl, hrow⟩ := hv.own_inv
    obtain ⟨vs, hr, hvo, hown, _, hsz, hc⟩ := row_cells hs hm
    refine ⟨vs, ?_, hr, hvo, hsz⟩
    rcases hown.2 with ⟨rfl, hl0⟩ | ⟨g, cap, cur, rfl, _⟩
    · have hl : ys = [] := List.eq_nil_of_length_eq_zero hl0
      subst hl
      have : vs = [] := List.eq_nil_of_length_eq_zero (by simpa using hown.1)
      subst this
      exact ⟨fun w' => rfl, hty, fun w' _ => by simp [Builtin.firstCells], by simp⟩
    · exact ⟨fun w' => rfl, hty, fun w' hw' => run_firstCells_some w' sz ys.length ⟨g, 0, none⟩ ys.length cap vs hown.1 (fun j u hj => by
        rw [World.cell?_of_block (w := w) (by rw [hw'])]; exact hc g _ _ rfl j u hj), hown.1⟩
  · rename_i v0 z a n
    obtain ⟨rfl, E, l, fl, hm, hle, rfl⟩ := h
    obtain ⟨vs, hr, hvo, hown, _, hsz, hc⟩ := row_cells hs hm
    have hlen : ((l.drop a).take n).length = n := by simp; omega
    have hsz' : ∀ y ∈ (l.drop a).take n, y.cells.length = z := fun y hy => hsz y (List.mem_of_mem_drop (List.mem_of_mem_take hy))
    have hflat : flat ((l.drop a).take n) = ((flat l).drop (a * z)).take (n * z) := by
      rw [flat_take (fun e he => hsz e (List.mem_of_mem_drop he)), flat_drop hsz]
    have hr' : VRs R ((vs.drop (a * z)).take (n * z)) (flat ((l.drop a).take n)) := by rw [hflat]; exact (hr.drop _).take _
    have hvl : ((vs.drop (a * z)).take (n * z)).length = ((l.drop a).take n).length * z := by rw [hr'.1, flat_length hsz']
    refine ⟨(vs.drop (a * z)).take (n * z), ?_, hr', fun u hu => hvo u (List.mem_of_mem_drop (List.mem_of_mem_take hu)), hsz'⟩
    rcases hv.sub_inv with ⟨_, _, rfl, rfl⟩ | ⟨g, n0, cap, p, rfl, hcap, hp, rfl⟩
    · refine ⟨fun w' => by rw [hlen]; rfl, hty, fun w' _ => ?_, hvl⟩
      simp [Builtin.firstCells]
    · refine ⟨fun w' => by rw [hlen]; rfl, hty, fun w' hw' => ?_, hvl⟩
      rw [hlen] at hvl ⊢
      refine run_firstCells_some w' z n p n (cap - a) _ hvl fun j u hj => ?_
      rw [World.cell?_of_block (w := w) (by rw [hw'])]
      have hjn : j < n * z := by
        have := (List.getElem?_eq_some_iff.1 hj).1
        rw [hvl] at this
        exact this
      have hn0 : 0 < n := by
        rcases Nat.eq_zero_or_pos n with e | e
        · subst e; simp at hjn
        · exact e
      rw [hp (by omega), addr_lit_add]
      rw [List.getElem?_take, if_pos hjn, List.getElem?_drop] at hj
      have := hc g n0 cap rfl (a * z + j) u hj
      rw [addr_lit_add, Nat.zero_add] at this
      exact this
  · subst h
    rw [hv.val_inv]
    exact ⟨[], ⟨fun w' => rfl, hty, fun w' _ => by simp [Builtin.firstCells], by simp⟩, VRs.nil R, by simp, by simp⟩
  · rename_i a n cap
    obtain ⟨rfl, hsp, t, cs, hm, hl, hone, rfl⟩ := h
    rw [hv.val_inv]
    obtain ⟨vs, hr, hvo, _, hc⟩ := var_cells hs hm
    obtain ⟨b, off, sp⟩ := a
    simp only at hsp hl hc
    subst hsp
    have hh := cells_at hc off n
    rw [addr_lit_add, Nat.zero_add] at hh
    have hr' := (hr.drop off).take n
    have hlen : ((vs.drop off).take n).length = ((cs.drop off).take n).length * 1 := by rw [hr'.1, Nat.mul_one]
    have hlen2 : ((cs.drop off).take n).length = n := by rw [List.length_take, List.length_drop]; omega
    -- a cell's own cells: the cell itself, for a value of one cell
    have hflat : VRs R ((vs.drop off).take n) (flat ((cs.drop off).take n)) := by
      refine ⟨by rw [hr'.1, flat_length (sz := 1) (fun e he => hone e (List.mem_of_mem_drop (List.mem_of_mem_take he))), Nat.mul_one], ?_⟩
      intro j u v hu hv
      have hj : j < ((vs.drop off).take n).length := (List.getElem?_eq_some_iff.1 hv).1
      rw [hr'.1] at hj
      have hg := flat_get (l := (cs.drop off).take n) (sz := 1) (fun e he => hone e (List.mem_of_mem_drop (List.mem_of_mem_take he))) j hj
      have hvr := hr'.2 j _ v (List.getElem?_eq_getElem hj) hv
      have hvone : v.oneCell' = true := hvo v (List.mem_of_mem_drop (List.mem_of_mem_take (List.mem_of_getElem? hv)))
      rw [List.getD_eq_getElem?_getD, List.getElem?_eq_getElem hj, Option.getD_some, Nat.mul_one] at hg
      have hu' : u ∈ ((cs.drop off).take n)[j].cells := by
        rw [← hg]
        apply List.mem_of_getElem? (i := 0)
        rw [List.getElem?_take, if_pos (by omega), List.getElem?_drop, Nat.add_zero]
        exact hu
      have hcl := hone _ (List.mem_of_mem_drop (List.mem_of_mem_take (List.getElem_mem hj)))
      generalize ((cs.drop off).take n)[j] = c at hvr hu' hcl
      cases hvr with
      | agg hl' hv' => cases hvone
      | tuple hl' hv' => cases hvone
      | undef => simp [AV.cells] at hu'; subst hu'; exact .undef _
      | val v => simp [AV.cells] at hu'; subst hu'; exact .val _
      | own h => simp [AV.cells] at hu'; subst hu'; exact .own h
      | sub h => simp [AV.cells] at hu'; subst hu'; exact .sub h
      | lst vs' hn hz hsz hl' hv' hR hm hb ho => simp [AV.cells] at hu'; subst hu'; exact .lst vs' hn hz hsz hl' hv' hR hm hb ho
      | rptr vs' hl' hv' hR => simp [AV.cells] at hu'; subst hu'; exact .rptr vs' hl' hv' hR
      | eptr => simp [AV.cells] at hu'; subst hu'; exact .eptr
      | fn a b c d => simp [AV.cells] at hu'; subst hu'; exact .fn a b c d
      | ifc a => simp [AV.cells] at hu'; subst hu'; exact .ifc a
    refine ⟨_, ⟨fun w' => by rw [hlen2]; rfl, hty, fun w' hw' => ?_, hlen⟩, hflat, fun u hu => hvo u (List.mem_of_mem_drop (List.mem_of_mem_take hu)), fun y hy => hone y (List.mem_of_mem_drop (List.mem_of_mem_take hy))⟩
    refine run_firstCells_some w' 1 _ ⟨b, off, none⟩ n cap _ hlen fun j u hj => ?_
    rw [World.cell?_of_block (w := w) (by rw [hw'])]
    exact hh j u hj
  · rename_i s
    obtain ⟨rfl, rfl⟩ := h
    rw [hv.val_inv]
    have hfl := flat_bytes s.data.toList
    refine ⟨Lib.strCells s, ⟨fun w' => ?_, hty, fun w' _ => ?_, ?_⟩, ?_, Lib.strCells_oneCell s, fun y hy => by simp only [List.mem_map] at hy; obtain ⟨b, _, rfl⟩ := hy; rfl⟩
    · simp [Builtin.lenOf]
    · have := Lib.run_firstCells_string (P := P) w' 1 s
      simpa using this
    · rw [Lib.strCells_length]; simp
    · rw [hfl]; exact VRs.ofVals R _
  · exact h.elim

/-- append. -/
def aAppend (E : TypeId) (sz by_ : Nat) (d x : AV) (σ : Store) (k : AV → Store → Prop) : Prop := ∃ ys, srcA sz σ x ys ∧ (sz = 1 → ∀ c ∈ ys, c.cells.length = 1) ∧ ((∃ z l m, d = .lst z l m ∧ ys = [] ∧ k d σ) ∨ match d with
  | .own v n => ∃ σ1 σ2 l fl, σ = σ1 ++ .row v E sz l fl :: σ2 ∧ (l.length + ys.length) * by_ ≤ 140737488355328 ∧ l.length + ys.length ≤ maxLen ∧ ∀ v', k (.own v' (l.length + ys.length)) (σ1 ++ .row v' E sz (l ++ ys) fl :: σ2)
  | .val (.slice none 0 0) => ys.length * by_ ≤ 140737488355328 ∧ ys.length ≤ maxLen ∧ ∀ v', k (.own v' ys.length) (.row v' E sz ys 0 :: σ)
  | .lst z l .nil => ys.length * by_ ≤ 140737488355328 ∧ ys.length ≤ maxLen ∧ ∀ v', k (.own v' ys.length) (.row v' E sz ys 0 :: σ)
  | .lst z l .full => z = sz ∧ ys ≠ [] ∧ (l.length + ys.length) * by_ ≤ 140737488355328 ∧ l.length + ys.length ≤ maxLen ∧ ∀ v', k (.own v' (l.length + ys.length)) (.row v' E sz (l ++ ys) 0 :: σ)
  | _ => False)

theorem st_nilRow {R : RO} {w : World} {σ : Store} (hs : St R w σ) (E : TypeId) {sz : Nat} (hz : 0 < sz) : St R w (.row (.slice none 0 0) E sz [] 0 :: σ) ∧ Ext R w σ R w (.row (.slice none 0 0) E sz [] 0 :: σ) :=
  st_newRow hs ⟨rfl, rfl, rfl, Nat.le_refl _, fun _ _ _ => rfl⟩ (World.ownsRow_nil w 0 E sz) (VRs.nil R) (by simp) hz (by simp) (Nat.zero_le _) (by simp [Value.ownBlock])

theorem append_none {w : World} {t xt ty e : TypeId} {i : TypeInfo} (ht : P.underlying t = some (.slice e)) (hi : P.info? e = some i) {ao : Option Addr} {sLen sCap : Nat} {x : Value} (hx : SrcOk P w x xt i.size 0 []) (hle : sLen ≤ sCap) :
    (Builtin.append_ #[t, xt] ty #[.slice ao sLen sCap, x]).run P w = .ok (.slice ao sLen sCap) w := by
  have hfn := hx.cells w rfl
  have hlx := hx.len w
  cases ao with
  | none =>
    rcases hx.ty with ⟨e', hxd⟩ | hxd
    · simp [Builtin.append_, run_underlying ht, run_underlying hxd, sizeOf, typeInfo, hi, hlx, hle, hfn]
    · simp [Builtin.append_, run_underlying ht, run_underlying hxd, sizeOf, typeInfo, hi, hlx, hle, hfn]
  | some a =>
    rcases hx.ty with ⟨e', hxd⟩ | hxd
    · simp [Builtin.append_, run_underlying ht, run_underlying hxd, sizeOf, typeInfo, hi, hlx, hle, hfn, storeCells]
    · simp [Builtin.append_, run_underlying ht, run_underlying hxd, sizeOf, typeInfo, hi, hlx, hle, hfn, storeCells]
theorem ef_append {ρ : Operand → AV} {σ : Store} {t xt e : TypeId} {d x : Operand} {zs : List Value} {s b : Nat} (hz : rowOf P t = some (e, zs, s, b)) (hxt : isStringOrSlice P xt = true) {o : Oper} (ho : o.op = .call { callee := .builtin .append, args := #[d, x], argTypes := #[t, xt] })
    {k kp : AV → Store → Prop} (h : aAppend e s b (ρ d) (ρ x) σ k) : AOp P o ρ σ k kp := by
  refine AOp.ofRun fun R w ev ha hs => ?_
  obtain ⟨ys, hsrc, hp1, h⟩ := h
  obtain ⟨hu, i, z, hi, hiz, hzs, hlen, hsi, hby, hpos⟩ := rowOf_run hz
  obtain ⟨news, hok, hr, hone, hys⟩ := src_ok (P := P) hs hxt hpos (ha x) hsrc hp1
  have hzc : z.cells.size = i.size := by rw [hsi, ← hlen, ← hzs]; simp
  have hex : ∀ v' w', (Builtin.append_ #[t, xt] o.type #[ev d, ev x]).run P w = .ok v' w' → (execOp ev o).run P w = .ok (.value v') w' := by
    intro v' w' hrun
    unfold execOp
    rw [ho]
    simp [resolve, invoke, builtin, hrun]
  have onto : ∀ (σ1 σ2 : Store) (l : List AV) (fl : Nat), St R w (σ1 ++ .row (ev d) e s l fl :: σ2) → (l.length + ys.length) * b ≤ 140737488355328 → l.length + ys.length ≤ maxLen → (∀ v', k (.own v' (l.length + ys.length)) (σ1 ++ .row v' e s (l ++ ys) fl :: σ2)) →
      Ext R w σ R w (σ1 ++ .row (ev d) e s l fl :: σ2) → ∃ v w' u R' σ', (execOp ev o).run P w = .ok (.value v) w' ∧ k u σ' ∧ VR R' v u ∧ St R' w' σ' ∧ Ext R w σ R' w' σ' := by
    intro σ1 σ2 l fl hst hb1 hb2 hk hx
    subst hby
    rw [← hsi] at hok
    obtain ⟨v', w', hrun, hrow, g1, g2⟩ := append_own (P := P) (ty := o.type) hst hu hi hiz hzc hsi hok hr hone hys hb1 hb2
    exact ⟨v', w', _, R, _, hex _ _ hrun, hk v', .own hrow, g1, hx.trans g2⟩
  have hd := ha d
  rcases h with ⟨z', l, m, e1, rfl, hk⟩ | h
  · have hd' := hd
    rw [e1] at hd
    obtain ⟨ao, cap, vs, hv, _, _, _, _, hm, _⟩ := hd.lst_inv
    have hle : l.length ≤ cap := by cases m <;> simp only [SMok] at hm <;> omega
    have hn : news = [] := List.eq_nil_of_length_eq_zero (by simpa using hok.length)
    subst hn
    have hrun := append_none (P := P) (w := w) (ty := o.type) (sLen := l.length) (ao := ao) hu hi (by rw [hsi]; simpa using hok) hle
    rw [← hv] at hrun
    exact ⟨_, _, _, R, σ, hex _ _ hrun, hk, hd', hs, Ext.refl _ _ _⟩
  split at h
  · rename_i v n e1
    rw [e1] at hd
    obtain ⟨hv, _⟩ := hd.own_inv
    obtain ⟨σ1, σ2, l, fl, rfl, hb1, hb2, hk⟩ := h
    subst hv
    exact onto σ1 σ2 l fl hs hb1 hb2 hk (Ext.refl _ _ _)
  · rename_i e1
    rw [e1] at hd
    have hv := hd.val_inv
    obtain ⟨hb1, hb2, hk⟩ := h
    obtain ⟨g1, g2⟩ := st_nilRow hs e hpos
    rw [← hv] at g1 g2
    exact onto [] σ [] 0 g1 (by simpa using hb1) (by simpa using hb2) (by simpa using hk) g2
  · rename_i z' l e1
    rw [e1] at hd
    obtain ⟨ao, cap, vs, hv, _, _, _, _, hm, _⟩ := hd.lst_inv
    obtain ⟨rfl, h0, rfl⟩ := hm
    rw [h0] at hv
    obtain ⟨hb1, hb2, hk⟩ := h
    obtain ⟨g1, g2⟩ := st_nilRow hs e hpos
    rw [← hv] at g1 g2
    exact onto [] σ [] 0 g1 (by simpa using hb1) (by simpa using hb2) (by simpa using hk) g2
  · rename_i z' l e1
    rw [e1] at hd
    obtain ⟨rfl, hne, hb1, hb2, hk⟩ := h
    obtain ⟨ao, cap, vs, hv, _, hsz, hrl, hR, hm, hbl, hol⟩ := hd.lst_inv
    simp only [SMok] at hm
    subst hm
    subst hby
    have hvl : vs.length = l.length * i.size := by rw [hrl.1, flat_length hsz, hsi]
    have hok' : SrcOk P w (ev x) xt i.size ys.length news := by rw [hsi]; exact hok
    have hdst : SrcOk P w (.slice ao l.length l.length) t i.size l.length vs := by
      refine ⟨fun w' => rfl, .inl ⟨_, hu⟩, fun w' hw' => ?_, hvl⟩
      cases ao with
      | none =>
        have : l = [] := by
          cases l with
          | nil => rfl
          | cons y ys => obtain ⟨a, ha, _⟩ := hR (by simp); cases ha
        subst this
        have : vs = [] := List.eq_nil_of_length_eq_zero (by simpa using hvl)
        subst this
        simp [Builtin.firstCells]
      | some a =>
        refine run_firstCells_some w' i.size l.length a l.length l.length vs hvl fun j u hj => ?_
        by_cases hne : l = []
        · subst hne
          have : vs = [] := List.eq_nil_of_length_eq_zero (by simpa using hvl)
          subst this; simp at hj
        · obtain ⟨a', ha, hc⟩ := hR hne
          cases ha
          rw [World.cell?_of_block (w := w) (by rw [hw'])]
          exact hs.ro _ _ (hc j u hj)
    have hyp : 0 < ys.length := List.length_pos_iff.2 hne
    have hrun := append_grow (P := P) (ty := o.type) hu hi hiz hdst hok' (by omega) (by simp only [maxLen] at hb2; omega) hb1 (.inl rfl)
    have hlen2 : (vs ++ news).length = (l ++ ys).length * z' := by rw [List.length_append, hvl, hok'.length, List.length_append, hsi, Nat.add_mul]
    have hge := grownCap_ge w (l.length + ys.length) l.length e
    have hcm : grownCap w (l.length + ys.length) l.length e ≤ maxLen := grownCap_le_maxLen w _ l.length e hb2
    have hfl : flat (l ++ ys) = flat l ++ flat ys := flat_append _ _
    obtain ⟨g1, g2⟩ := st_newRow (R := R) (w' := w.drew.alloc (.cells (vs.toArray ++ news.toArray ++ Builtin.zeroCells z.cells (grownCap w (l.length + ys.length) l.length e - (l.length + ys.length))) e)) hs
      ⟨rfl, rfl, rfl, by simp, fun k hk _ => heap_alloc_old w.drew _ k hk⟩ (v := .slice (some ⟨w.heap.size, 0, none⟩) (l.length + ys.length) (grownCap w (l.length + ys.length) l.length e)) (E := e) (sz := z') (l := l ++ ys) (vs := vs ++ news)
      ⟨hlen2, .inr ⟨w.heap.size, _, _, by rw [List.length_append], Nat.zero_le _, heap_alloc_new w.drew _, by rw [List.length_append]; exact hge, hcm, by
        simp only [Array.size_append, List.size_toArray, size_zeroCells, hzc, hvl, hok'.length, ← Nat.add_mul, hsi]
        congr 1
        omega, by
        simp only [Array.toList_append, List.append_assoc]
        rw [← List.append_assoc, ← hlen2]
        exact List.take_left⟩⟩ (by rw [hfl]; exact hrl.append hr) (by
        intro v hv
        rcases List.mem_append.1 hv with hv | hv
        · exact hol v hv
        · exact hone v hv) hpos (by
        intro y hy
        rcases List.mem_append.1 hy with hy | hy
        · exact hsz y hy
        · exact hys y hy) (by rw [List.length_append]; exact hb2) (by intro b hb; simp only [Value.ownBlock, Option.some.injEq] at hb; omega)
    rw [← hv] at hrun
    exact ⟨_, _, _, R, _, hex _ _ hrun, hk _, .own (by simpa using g1.rowV List.mem_cons_self), g1, g2⟩
  · exact h.elim

end Go.Ab
