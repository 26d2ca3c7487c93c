/- A logic over abstract states (part 7): new memory that nobody writes into; conversions; arithmetic; calls of functions told by their arguments. -/
import Derived.Test.YtopmpooglnfalaaAb6
import Derived.Lib.ConvBytes
import Derived.Laws.BytesArg
set_option linter.unusedVariables false
set_option linter.unusedSimpArgs false
namespace Go.Ab
variable {P : Program}

/-- All memory that is new, from now on not to be written. -/
def roNew (R : RO) (w w' : World) : RO := fun a => if a.block < w.heap.size then R a else w'.cell? a
theorem roNew_le {R : RO} {w w' : World} {σ : Store} (h : St R w σ) : RO.le R (roNew R w w') := by
  intro a v ha
  unfold roNew
  rw [if_pos (h.roLt ha)]
  exact ha
theorem st_roNew {R : RO} {w w' : World} {σ : Store} (h : St R w σ) (hg : w.grownBy w' none) : St (roNew R w w') w' σ ∧ Ext R w σ (roNew R w w') w' σ := by
  have hb : ∀ k, k < w.heap.size → w'.heap[k]? = w.heap[k]? := fun k hk => hg.block k hk (by simp)
  refine ⟨⟨?_, ?_, h.apart⟩, ⟨roNew_le h, hg.os, hg.tape, hg.output, hg.size, fun k hk _ => hb k hk, fun k hk => .inl hk, ?_⟩⟩
  · intro a v ha
    unfold roNew at ha
    split at ha
    · rename_i hlt
      rw [World.cell?_of_block (hb a.block hlt)]
      exact h.ro a v ha
    · exact ha
  · intro e he
    have hlt : ∀ b, e.blk = some b → b < w.heap.size := fun b hb => (h.ents e he).lt hb
    refine (h.ents e he).keep (roNew_le h) (fun b hb' => hb b (hlt b hb')) fun b hb' a x ha hab => ?_
    unfold roNew at ha
    rw [if_pos (by rw [hab]; exact hlt b hb')] at ha
    exact ha
  · intro a v ha
    unfold roNew at ha
    split at ha
    · exact .inl ha
    · rename_i hlt; exact .inr (.inl (by omega))

theorem pr_buildSl {ρ : Operand → AV} {t e : TypeId} {n : Nat} {parts : Array (Nat × Operand)} {zs : List Value} {s : Nat} (hz : zeroOf P t = some (e, zs, s)) (hn : n * s ≤ 16777216) {u : AV} {z : AV} (hzc : z.cells = zs.map .val)
    (ho : partsOne (parts.toList.map fun p => (p.1, ρ p.2))) (h : aBuildSl z s n (parts.toList.map fun p => (p.1, ρ p.2)) u) (hzo : ∀ v ∈ zs, v.oneCell' = true) (hfo : ∀ l : List AV, u = .lst s l .full → ∀ c ∈ flat l, c.one = true) :
    PRun P (fun ev => do pure (.value (← Instr.buildSlice t n (parts.map fun x => (x.1, ev x.2))))) ρ u := by
  intro R w ev σ ha hs
  obtain ⟨l, hl, hsz, hf, hu⟩ := h
  rw [hzc] at hf
  obtain ⟨xs, hr, hrun⟩ := run_buildSlice hz hn ha parts ho hf w
  obtain ⟨g1, g2⟩ := st_roNew hs (World.grownBy_alloc w (.cells (List.toArray xs) e) none)
  refine ⟨.slice (some ⟨w.heap.size, 0, none⟩) n n, _, _, by simp only [Sem.run_bind, hrun, Result.andThen_ok, Sem.run_pure], ?_, g1, g2⟩
  rw [hu]
  obtain ⟨_, _, _, _, _, _, _, _, hpos⟩ := zeroOf_run hz
  have hr' := hr.mono g2.ro
  refine .lst xs hl hpos hsz hr'.1 hr'.2 (fun _ => ⟨_, rfl, fun j v hj => ?_⟩) (by simp [SMok]) ?_ (ones_rel hr (hfo l hu))
  · rw [addr_lit_add, Nat.zero_add]
    unfold roNew
    rw [if_neg (by simp)]
    simp [hj]
  · have : n ≤ n * s := Nat.le_mul_of_pos_right _ hpos
    simp only [maxLen]; omega

theorem allVals_map {l : List AV} {vs : List Value} (h : allVals l = some vs) : l = vs.map .val := by
  induction l generalizing vs with
  | nil => simp [allVals] at h; subst h; rfl
  | cons u l ih =>
    cases u with
    | val v =>
      simp only [allVals, Option.map_eq_some_iff] at h
      obtain ⟨vs', h', rfl⟩ := h
      rw [ih h']; rfl
    | _ => cases h

theorem plain_rel {R : RO} {v : Value} {x : AV} {a : Value} (h : VR R v x) (hp : plainV x = some a) : v = a := by
  cases x with
  | val b => simp only [plainV, Option.some.injEq] at hp; rw [← hp]; exact h.val_inv
  | agg cs =>
    simp only [plainV, Option.map_eq_some_iff] at hp
    obtain ⟨vs, hvs, rfl⟩ := hp
    obtain ⟨ws, rfl, hr⟩ := h.agg_inv
    rw [allVals_map hvs] at hr
    rw [hr.toVals]
  | _ => simp [plainV] at hp
theorem pr_bin {ρ : Operand → AV} {op : BinOp} {t ty : TypeId} {x y : Operand} {o : Oper} (ho : o.op = .binOp op t x y ty) {u : AV} (h : aBin P op t (ρ x) (ρ y) u) : PRun P (fun ev => execOp ev o) ρ u := by
  refine PRun.still fun R w ev ha _ => ?_
  have hx := ha x
  have hy := ha y
  unfold aBin at h
  split at h
  · rename_i a b e1 e2
    obtain ⟨v, hu, hr⟩ := h
    refine ⟨v, ?_, by rw [hu]; exact .val v⟩
    have := hr x y w
    simp only [execOp, ho, plain_rel hx e1, plain_rel hy e2]
    simp only [Sem.run_bind] at this ⊢
    rw [this]
    rfl
  · rename_i e2 _
    have hy' := plain_rel hy e2
    obtain ⟨v, hu, hr⟩ := h
    have hm : mayBe (ρ x) (ev x) := by
      unfold mayBe
      split
      · rename_i sz l m e1
        rw [e1] at hx
        obtain ⟨ao, cap, vs, hv, hz, hsz, hr, hR, hm, hb, hone⟩ := hx.lst_inv
        split
        · rename_i e; subst e
          obtain ⟨rfl, h0, rfl⟩ := hm
          rw [hv, h0]
        · split
          · trivial
          · rename_i hne
            obtain ⟨a, rfl, _⟩ := hR hne
            exact ⟨a, _, _, hv⟩
      · rename_i v n e1
        rw [e1] at hx
        obtain ⟨hv, hrow⟩ := hx.own_inv
        split
        · trivial
        · rename_i hn
          rcases hrow with ⟨_, h0⟩ | ⟨g, cap, hs, _⟩
          · exact absurd h0 hn
          · exact ⟨_, _, _, hv.trans hs⟩
      · trivial
    refine ⟨v, ?_, by rw [hu]; exact .val v⟩
    have := hr _ hm x y w
    simp only [execOp, ho, hy']
    simp only [Sem.run_bind] at this ⊢
    rw [this]
    rfl
  · exact h.elim

theorem pr_un {ρ : Operand → AV} {op : UnOp} {t : TypeId} {x : Operand} {u : AV} (h : aUn P op (ρ x) u) : PRun P (fun ev => do pure (.value (← Op.unary op (ev x)))) ρ u := by
  refine PRun.still fun R w ev ha _ => ?_
  have hx := ha x
  unfold aUn at h
  split at h
  · rename_i a e1
    rw [e1] at hx
    obtain ⟨v, hu, hr⟩ := h
    exact ⟨v, by simp [hx.val_inv, hr w], by rw [hu]; exact .val v⟩
  · exact h.elim

theorem isBytes_run {t : TypeId} (h : isBytes P t = true) : ∃ e, P.underlying t = some (.slice e) ∧ P.underlying e = some (.int .u8) := by
  unfold isBytes at h
  split at h
  · rename_i e hu
    split at h
    · rename_i hue; exact ⟨e, hu, hue⟩
    · cases h
  · cases h
theorem isString_run {t : TypeId} (h : isString P t = true) : P.underlying t = some .string := by
  unfold isString at h
  split at h
  · assumption
  · cases h

theorem strOfNums_bytes (bs : List UInt8) : strOfNums (bs.map fun b => (b.toNat : Int)) = ⟨bs.toArray⟩ := by
  unfold strOfNums
  congr 2
  rw [List.map_map]
  have : ((fun n : Int => UInt8.ofNat n.toNat) ∘ fun b : UInt8 => (b.toNat : Int)) = id := by funext b; simp
  rw [this, List.map_id]
theorem flat_bytes (bs : List UInt8) : flat (bs.map byt) = (bs.map fun b => Value.int .u8 b.toNat).map .val := by
  induction bs with
  | nil => rfl
  | cons b bs ih => simp only [List.map_cons]; rw [← ih]; rfl
theorem pr_conv {ρ : Operand → AV} {s d : TypeId} {x : Operand} {u : AV} (h : aConv P s d (ρ x) u) : PRun P (fun ev => do pure (.value (← convert s d (ev x)))) ρ u := by
  intro R w ev σ ha hs
  have hx := ha x
  unfold aConv at h
  split at h
  · rename_i hc
    simp only [Bool.and_eq_true] at hc
    have h1 := isString_run hc.1
    obtain ⟨e, h2, h3⟩ := isBytes_run hc.2
    split at h
    · rename_i str e1
      rw [e1] at hx
      have hrun := Lib.run_convert_string_bytes w s d e str h1 h2 h3
      have hg : w.grownBy (Lib.bytesWorld w e str) none := ⟨rfl, rfl, rfl, by rw [Lib.bytesWorld_size]; omega, fun k hk _ => Lib.bytesWorld_at_old w e str k hk⟩
      obtain ⟨g1, g2⟩ := st_roNew hs hg
      refine ⟨.slice (some ⟨w.heap.size, 0, none⟩) str.size (grownCap w str.size 0 e), _, _, by simp only [hx.val_inv, Sem.run_bind, hrun, Result.andThen_ok, Sem.run_pure], ?_, g1, g2⟩
      rw [h.2]
      have hfl := flat_bytes str.data.toList
      have hv := VRs.ofVals (roNew R w (Lib.bytesWorld w e str)) (str.data.toList.map fun b => Value.int .u8 b.toNat)
      rw [← hfl] at hv
      refine .lst _ (by simp) (by omega) (fun e he => ?_) hv.1 hv.2 (fun _ => ⟨_, rfl, fun j v hj => ?_⟩) ?_ h.1 ?_
      · simp only [List.mem_map] at he
        obtain ⟨b, _, rfl⟩ := he
        rfl
      · rw [addr_lit_add, Nat.zero_add]
        unfold roNew
        rw [if_neg (by simp)]
        simp only [List.getElem?_map, Option.map_eq_some_iff] at hj
        obtain ⟨b, hb, rfl⟩ := hj
        have hlt : j < str.size := by have := (List.getElem?_eq_some_iff.1 hb).1; simpa using this
        rw [Lib.bytesWorld_cell w e str j hlt]
        simp [List.getD_eq_getElem?_getD, hb]
      · simp only [SMok]; exact grownCap_ge _ _ _ _
      · intro v hv
        simp only [List.mem_map] at hv
        obtain ⟨b, _, rfl⟩ := hv
        rfl
    · exact h.elim
  · split at h
    · rename_i hc
      simp only [Bool.and_eq_true] at hc
      obtain ⟨e, h1, h3⟩ := isBytes_run hc.1
      have h2 := isString_run hc.2
      split at h
      · rename_i sz l m e1
        rw [e1] at hx
        obtain ⟨bs, hl, hu⟩ := h
        obtain ⟨ao, cap, vs, hv, hz, hsz, hr, hR, hm, hb, hone⟩ := hx.lst_inv
        subst hl
        have hfl := flat_bytes bs
        rw [hfl] at hr
        have hvs := hr.toVals
        refine ⟨.string ⟨bs.toArray⟩, w, R, ?_, by rw [hu]; exact .val _, hs, Ext.refl _ _ _⟩
        cases bs with
        | nil =>
          cases ao with
          | none => simp only [hv, Sem.run_bind, run_convert_bytes_nil w s e h1 h3 _ _ d h2, Result.andThen_ok, Sem.run_pure]; rfl
          | some a =>
            obtain ⟨b, o, sp⟩ := a
            have := run_convert_bytes_string w s d e (some ⟨b, o, sp⟩) 0 cap h1 h3 h2
            simp only [hv, Sem.run_bind, List.map_nil, List.length_nil, this]
            simp [Conv.bytesToString, loadCells, loadCellsFrom]
            rfl
        | cons b0 bs =>
          obtain ⟨a, rfl, hR'⟩ := hR (by simp)
          have hcell : ∀ j v, vs[j]? = some v → w.cell? (a.add j) = some v := fun j v hj => hs.ro _ _ (hR' j v hj)
          obtain ⟨b, o, sp⟩ := a
          have hsp : sp = none := by
            have := hcell 0 (.int .u8 b0.toNat) (by rw [hvs]; rfl)
            simp only [Addr.add, if_true, World.cell?] at this
            cases sp with
            | none => rfl
            | some q => split at this <;> simp at this
          subst hsp
          have hrun := run_convert_bytes_arg w s e h1 h3 b o (b0 :: bs).length cap ((b0 :: bs).map fun b => (b.toNat : Int)) (by simp) (fun i hi => by
            have := hcell i (.int .u8 ((b0 :: bs)[i].toNat)) (by rw [hvs, List.getElem?_map, List.getElem?_eq_getElem hi]; rfl)
            rw [addr_lit_add] at this
            rw [this]
            rw [List.getD_eq_getElem?_getD, List.getElem?_map, List.getElem?_eq_getElem hi]; rfl) d h2
          simp only [List.length_map] at hv
          simp only [hv, Sem.run_bind, hrun, Result.andThen_ok, Sem.run_pure]
          rw [strOfNums_bytes]
      · exact h.elim
    · split at h
      · rename_i a e1
        rw [e1] at hx
        obtain ⟨v, hu, hr⟩ := h
        exact ⟨v, w, R, by simp [hx.val_inv, hr w], by rw [hu]; exact .val v, hs, Ext.refl _ _ _⟩
      · exact h.elim

theorem pr_iface {ρ : Operand → AV} {t : TypeId} {x : Operand} (h : P.concrete t = true) : PRun P (fun ev => do pure (.value (← Instr.makeInterface t (ev x)))) ρ (.ifc t (ρ x)) :=
  PRun.still fun R w ev ha _ => ⟨.iface t (ev x), by simp [run_makeInterface w t (ev x) h], .ifc (ha x)⟩

theorem map_rel {R : RO} {ev : Operand → Value} {ρ : Operand → AV} (ha : ∀ x, VR R (ev x) (ρ x)) (l : List Operand) : VRs R (l.map ev) (l.map ρ) := by
  refine ⟨by simp, fun j u v hu hv => ?_⟩
  simp only [List.getElem?_map, Option.map_eq_some_iff] at hu hv
  obtain ⟨x, hx, rfl⟩ := hu
  obtain ⟨y, hy, rfl⟩ := hv
  rw [hx] at hy
  cases hy
  exact ha x

theorem pr_func {ρ : Operand → AV} {f : Fn} {a b : Array Operand} : PRun P (fun ev => do pure (.value (← Instr.makeFunc f (a.map ev) (b.map ev)))) ρ (.fn f (a.toList.map ρ) (b.toList.map ρ)) :=
  PRun.still fun R w ev ha _ => ⟨.func f (a.map ev) (b.map ev), by simp [Instr.makeFunc], by
    have h1 := map_rel ha a.toList
    have h2 := map_rel ha b.toList
    exact .fn (by simp) (fun j u v hu hv => h1.2 j u v hu (by simpa using hv)) (by simp) (fun j u v hu hv => h2.2 j u v hu (by simpa using hv))⟩

theorem pr_builtin {ρ : Operand → AV} {o : Oper} {b : Builtin} {args : Array Operand} {ts : Array TypeId} (ho : o.op = .call { callee := .builtin b, args, argTypes := ts }) {u : AV} (h : aBuiltin P b ts (args.toList.map ρ) u) :
    PRun P (fun ev => execOp ev o) ρ u := by
  refine PRun.still fun R w ev ha _ => ?_
  have hm := map_rel ha args.toList
  obtain ⟨cs, hex⟩ : ∃ cs, (execOp ev o).run P w = (builtin b ts o.type cs (args.map ev)).run P w := by
    unfold execOp
    rw [ho]
    exact ⟨_, rfl⟩
  rw [hex]
  unfold aBuiltin at h
  split at h
  · rename_i sz l m e1
    obtain ⟨⟨t, ht, d, hd⟩, hu⟩ := h
    rw [e1] at hm
    have hl := hm.1
    have hvs : ∃ v, args.toList.map ev = [v] := by
      cases hargs : args.toList.map ev with
      | nil => rw [hargs] at hl; simp at hl
      | cons v vs => cases vs with
        | nil => exact ⟨v, rfl⟩
        | cons _ _ => rw [hargs] at hl; simp at hl
    obtain ⟨v, hv⟩ := hvs
    rw [hv] at hm
    have hr := hm.2 0 _ _ rfl rfl
    obtain ⟨ao, cap, vs, hve, _⟩ := hr.lst_inv
    have hav : args.map ev = #[v] := by apply Array.ext'; simp [hv]
    refine ⟨.int .i64 l.length, ?_, by rw [hu]; exact .val _⟩
    simp [builtin, Builtin.len_, hav, ht, run_underlying hd, hve, goInt]
  · rename_i v0 n0 e1
    obtain ⟨⟨t, ht, d, hd⟩, hu⟩ := h
    rw [e1] at hm
    have hl := hm.1
    have hvs : ∃ v, args.toList.map ev = [v] := by
      cases hargs : args.toList.map ev with
      | nil => rw [hargs] at hl; simp at hl
      | cons v vs => cases vs with
        | nil => exact ⟨v, rfl⟩
        | cons _ _ => rw [hargs] at hl; simp at hl
    obtain ⟨v, hv⟩ := hvs
    rw [hv] at hm
    obtain ⟨hr, hrow⟩ := (hm.2 0 _ _ rfl rfl).own_inv
    have hav : args.map ev = #[v] := by apply Array.ext'; simp [hv]
    subst hr
    refine ⟨.int .i64 n0, ?_, by rw [hu]; exact .val _⟩
    rcases hrow with ⟨rfl, rfl⟩ | ⟨g, cap, rfl, _⟩ <;> simp [builtin, Builtin.len_, hav, ht, run_underlying hd, goInt]
  · rename_i v0 z0 a0 n0 e1
    obtain ⟨⟨t, ht, d, hd⟩, hu⟩ := h
    rw [e1] at hm
    have hl := hm.1
    have hvs : ∃ v, args.toList.map ev = [v] := by
      cases hargs : args.toList.map ev with
      | nil => rw [hargs] at hl; simp at hl
      | cons v vs => cases vs with
        | nil => exact ⟨v, rfl⟩
        | cons _ _ => rw [hargs] at hl; simp at hl
    obtain ⟨v, hv⟩ := hvs
    rw [hv] at hm
    have hr := (hm.2 0 _ _ rfl rfl).sub_inv
    have hav : args.map ev = #[v] := by apply Array.ext'; simp [hv]
    refine ⟨.int .i64 n0, ?_, by rw [hu]; exact .val _⟩
    rcases hr with ⟨_, _, rfl, rfl⟩ | ⟨g, n1, cap, p, _, _, _, rfl⟩ <;> simp [builtin, Builtin.len_, hav, ht, run_underlying hd, goInt]
  · obtain ⟨_, vs, v, hvs, hu, hr⟩ := h
    rw [allVals_map hvs] at hm
    have hv := hm.toVals
    have hav : args.map ev = vs.toArray := by apply Array.ext'; simp [hv]
    exact ⟨v, by rw [hav]; exact hr _ _ w, by rw [hu]; exact .val v⟩

end Go.Ab
