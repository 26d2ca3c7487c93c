/- A logic over abstract states (part 9): make, append, copy; calls of functions. -/
import Derived.Test.YtopmpooglnfalaaAb8
import Derived.Lib.AppendStr
set_option linter.unusedVariables false
set_option linter.unusedSimpArgs false
namespace Go.Ab
variable {P : Program}

/-! ### A new growable row -/
theorem ownsRow_RowV {w : World} {base : Nat} {E : TypeId} {sz : Nat} {v : Value} {n : Nat} {xs : List Value} (h : w.ownsRow base E sz v n xs) : RowV v n := by
  rcases h.2 with h | ⟨g, cap, cur, rfl, _, _, h2, _⟩
  · exact .inl h
  · exact .inr ⟨g, cap, rfl, h2⟩
theorem St.rowV {R : RO} {w : World} {σ : Store} (hs : St R w σ) {v : Value} {E : TypeId} {sz : Nat} {l : List AV} {fl : Nat} (hm : Ent.row v E sz l fl ∈ σ) : RowV v l.length := by
  obtain ⟨_, _, ⟨vs, h, _⟩, _⟩ := hs.ents _ hm
  exact ownsRow_RowV h
theorem st_newRow {R : RO} {w w' : World} {σ : Store} (hs : St R w σ) (hg : w.grownBy w' none) {v : Value} {E : TypeId} {sz : Nat} {l : List AV} {vs : List Value} (hown : w'.ownsRow 0 E sz v l.length vs) (hr : VRs R vs (flat l)) (ho : ∀ v ∈ vs, v.oneCell' = true)
    (hz : 0 < sz) (hsz : ∀ e ∈ l, e.cells.length = sz) (hl : l.length ≤ maxLen) (hb : ∀ b, v.ownBlock = some b → w.heap.size ≤ b) :
    St R w' (.row v E sz l 0 :: σ) ∧ Ext R w σ R w' (.row v E sz l 0 :: σ) := by
  have hold : ∀ k, k < w.heap.size → w'.heap[k]? = w.heap[k]? := fun k hk => hg.block k hk (by simp)
  refine ⟨⟨fun a v ha => ?_, ?_, ?_⟩, ⟨fun _ _ h => h, hg.os, hg.tape, hg.output, hg.size, fun k hk _ => hold k hk, ?_, fun _ _ h => .inl h⟩⟩
  · rw [World.cell?_of_block (hold _ (hs.roLt ha))]; exact hs.ro a v ha
  · intro e he
    rcases List.mem_cons.1 he with rfl | he
    · refine ⟨hz, hsz, ⟨vs, hown, hr, ho⟩, hl, fun a x ha hab => ?_⟩
      have h1 := hs.roLt ha
      have h2 := hb _ hab
      omega
    · exact (hs.ents e he).keep (fun _ _ h => h) (fun b hb => hold b ((hs.ents e he).lt hb)) fun b hb a x ha hab => ha
  · refine List.pairwise_cons.2 ⟨fun e he b hb1 hb2 => ?_, hs.apart⟩
    have h1 := hb b hb1
    have h2 := (hs.ents e he).lt hb2
    omega
  · intro k hk
    obtain ⟨e, he, hbk⟩ := mem_blks.1 hk
    rcases List.mem_cons.1 he with rfl | he
    · exact .inr (hb k hbk)
    · exact .inl (mem_blks.2 ⟨e, he, hbk⟩)

/-- What the table says of a slice's elements, for a new row: element type, zero value's cells, cells, bytes. -/
def rowOf (P : Program) (t : TypeId) : Option (TypeId × List Value × Nat × Nat) := match P.underlying t with
  | some (.slice e) => match P.info? e with
    | some i => match i.zero with
      | some z => if z.cells.size = i.size ∧ 0 < i.size then some (e, z.cells.toList, i.size, i.bytes) else none
      | none => none
    | none => none
  | _ => none
theorem rowOf_run {t e : TypeId} {zs : List Value} {s b : Nat} (h : rowOf P t = some (e, zs, s, b)) : P.underlying t = some (.slice e) ∧ ∃ i z, P.info? e = some i ∧ i.zero = some z ∧ z.cells.toList = zs ∧ zs.length = s ∧ i.size = s ∧ i.bytes = b ∧ 0 < s := by
  unfold rowOf at h
  cases hu : P.underlying t with
  | none => rw [hu] at h; cases h
  | some d =>
    rw [hu] at h
    cases d with
    | slice e' =>
      simp only at h
      cases hi : P.info? e' with
      | none => rw [hi] at h; cases h
      | some i =>
        rw [hi] at h
        simp only at h
        cases hz : i.zero with
        | none => rw [hz] at h; cases h
        | some z =>
          rw [hz] at h
          simp only at h
          split at h
          · rename_i hc
            simp only [Option.some.injEq, Prod.mk.injEq] at h
            obtain ⟨rfl, rfl, rfl, rfl⟩ := h
            exact ⟨rfl, i, z, hi, hz, rfl, by simpa using hc.1, rfl, rfl, hc.2⟩
          · cases h
    | _ => cases h

def aMake (E : TypeId) (zs : List Value) (s by_ : Nat) (n c : AV) (σ : Store) (k : AV → Store → Prop) : Prop := match ixOf n, ixOf c with
  | some n, some c => 0 ≤ n ∧ n ≤ c ∧ by_ * c ≤ 281474976710656 ∧ c ≤ 9223372036854775807 ∧ (∀ v ∈ zs, v.oneCell' = true) ∧ ∀ v, k (.own v n.toNat) (.row v E s (List.replicate n.toNat (mkE (zs.map .val))) 0 :: σ)
  | _, _ => False

theorem flat_replicate (u : AV) (n : Nat) : flat (List.replicate n u) = (List.replicate n u.cells).flatten := by
  induction n with
  | zero => rfl
  | succ n ih => rw [List.replicate_succ, List.replicate_succ, List.flatten_cons, ← ih]; rfl

theorem ef_make {ρ : Operand → AV} {σ : Store} {t e : TypeId} {n c : Operand} {zs : List Value} {s b : Nat} (hz : rowOf P t = some (e, zs, s, b)) {o : Oper} (ho : o.op = .makeSlice t n c) {k kp : AV → Store → Prop} (h : aMake e zs s b (ρ n) (ρ c) σ k) : AOp P o ρ σ k kp := by
  refine AOp.ofRun fun R w ev ha hs => ?_
  unfold aMake at h
  cases hn : ixOf (ρ n) with
  | none => rw [hn] at h; exact h.elim
  | some n' =>
    cases hc : ixOf (ρ c) with
    | none => rw [hn, hc] at h; exact h.elim
    | some c' =>
      rw [hn, hc] at h
      obtain ⟨h0, h1, h2, h3, h4, hk⟩ := h
      obtain ⟨kn, hn⟩ := ixOf_inv hn
      obtain ⟨kc, hc⟩ := ixOf_inv hc
      have hvn := ha n; rw [hn] at hvn; have hvn := hvn.val_inv
      have hvc := ha c; rw [hc] at hvc; have hvc := hvc.val_inv
      obtain ⟨hu, i, z, hi, hiz, hzs, hlen, hsz, hby, hpos⟩ := rowOf_run hz
      have hrun := run_make (P := P) w t e i z hu hi hiz kn kc n' c' h0 h1 (by rw [hby]; exact h2) h3
      have hone : ∀ c ∈ zs.map AV.val, AV.one c = true := by
        intro c hc
        simp only [List.mem_map] at hc
        obtain ⟨v, hv, rfl⟩ := hc
        exact h4 v hv
      have hmk := mkE_cells hone
      have hfl : flat (List.replicate n'.toNat (mkE (zs.map .val))) = ((List.replicate n'.toNat zs).flatten).map .val := by
        rw [flat_replicate, hmk]; simp [List.map_flatten]
      have hzt : z.cells = zs.toArray := by rw [← hzs]
      have hcn : n'.toNat ≤ c'.toNat := by omega
      have hcur : (madeCells z.cells (c'.toNat * s)).toList.take (n'.toNat * s) = (List.replicate n'.toNat zs).flatten := by
        apply List.ext_getElem?
        intro j
        rw [List.getElem?_take]
        by_cases hj : j < n'.toNat * s
        · rw [if_pos hj, flatten_replicate_get zs _ j (by rw [hlen]; exact hj)]
          have hj2 : j < c'.toNat * s := Nat.lt_of_lt_of_le hj (Nat.mul_le_mul_right _ hcn)
          have hm : j % zs.length < zs.length := Nat.mod_lt _ (by omega)
          simp [madeCells, hzt, hj2, hm]
        · rw [if_neg hj, List.getElem?_eq_none (by simp; rw [hlen]; omega)]
      have hlen2 : ((List.replicate n'.toNat zs).flatten).length = n'.toNat * s := by simp [hlen]
      obtain ⟨g1, g2⟩ := st_newRow (R := R) hs (World.grownBy_alloc w (.cells (madeCells z.cells (c'.toNat * i.size)) e) none) (v := .slice (some ⟨w.heap.size, 0, none⟩) n'.toNat c'.toNat) (E := e) (sz := s) (l := List.replicate n'.toNat (mkE (zs.map .val)))
        (vs := (List.replicate n'.toNat zs).flatten) ⟨by rw [List.length_replicate]; exact hlen2, .inr ⟨w.heap.size, c'.toNat, _, by rw [List.length_replicate], Nat.zero_le _, heap_alloc_new w _, by rw [List.length_replicate]; exact hcn, by simp only [maxLen]; omega, by rw [size_madeCells, hsz], by rw [hsz, List.length_replicate]; exact hcur⟩⟩
        (by rw [hfl]; exact VRs.ofVals R _) (by intro v hv; simp only [List.mem_flatten, List.mem_replicate] at hv; obtain ⟨l, ⟨_, rfl⟩, hv⟩ := hv; exact h4 v hv) hpos (by intro x hx; rw [(List.mem_replicate.1 hx).2, hmk]; simp [hlen]) (by rw [List.length_replicate]; simp only [maxLen]; omega)
        (by intro b hb; simp only [Value.ownBlock, Option.some.injEq] at hb; omega)
      refine ⟨_, _, _, R, _, ?_, hk _, .own (by simpa using g1.rowV List.mem_cons_self), g1, g2⟩
      simp [execOp, ho, hvn, hvc, hrun]

/-! ### append -/
/-- What is appended, as it is read. -/
structure SrcOk (P : Program) (w : World) (x : Value) (xt : TypeId) (size m : Nat) (news : List Value) : Prop where
  len : ∀ w' : World, (Builtin.lenOf x).run P w' = .ok m w'
  ty : (∃ e, P.underlying xt = some (.slice e)) ∨ P.underlying xt = some .string
  cells : ∀ w' : World, w'.heap = w.heap → (Builtin.firstCells size m x).run P w' = .ok (List.toArray news) w'
  length : news.length = m * size

theorem append_grow {w : World} {t xt ty e : TypeId} {i : TypeInfo} {z : Value} (ht : P.underlying t = some (.slice e)) (hi : P.info? e = some i) (hz : i.zero = some z) {ao : Option Addr} {sLen sCap : Nat} {olds : List Value}
    (hd : SrcOk P w (.slice ao sLen sCap) t i.size sLen olds) {x : Value} {m : Nat} {news : List Value} (hx : SrcOk P w x xt i.size m news) (hg : sCap < sLen + m) (h63 : sLen + m ≤ 9223372036854775807) (hb : (sLen + m) * i.bytes ≤ 140737488355328) (ho : sCap = sLen ∨ sLen ≤ sCap) :
    (Builtin.append_ #[t, xt] ty #[.slice ao sLen sCap, x]).run P w = .ok (.slice (some ⟨w.heap.size, 0, none⟩) (sLen + m) (grownCap w (sLen + m) sCap e))
      (w.drew.alloc (.cells (olds.toArray ++ news.toArray ++ Builtin.zeroCells z.cells (grownCap w (sLen + m) sCap e - (sLen + m))) e)) := by
  have hn : ¬ (sLen + m ≤ sCap) := by omega
  have h63' : ¬ (9223372036854775807 < ((sLen : Int) + (m : Int))) := by omega
  have hfit := growslice_fits (bytes := i.bytes) hg hb
  have h48' : ¬ (281474976710656 < Builtin.nextslicecap (sLen + m) sCap * i.bytes) := by omega
  have hfo := hd.cells w.drew rfl
  have hfn := hx.cells w.drew rfl
  have hlx := hx.len w
  rcases hx.ty with ⟨e', hxd⟩ | hxd
  · simp [Builtin.append_, run_underlying ht, run_underlying hxd, sizeOf, typeInfo, zeroValue, hi, hz, hn, h63', h48', Question.forced, hfo, hfn, hlx, newRow, grownCap]
    congr 2
    apply Array.ext'
    simp [List.append_assoc]
  · simp [Builtin.append_, run_underlying ht, run_underlying hxd, sizeOf, typeInfo, zeroValue, hi, hz, hn, h63', h48', Question.forced, hfo, hfn, hlx, newRow, grownCap]
    congr 2
    apply Array.ext'
    simp [List.append_assoc]

theorem append_room {w : World} {t xt ty e : TypeId} {i : TypeInfo} (ht : P.underlying t = some (.slice e)) (hi : P.info? e = some i) {g sLen sCap : Nat} {cur : Array Value} (hgc : w.heap[g]? = some (.cells cur e (0, 0)))
    {x : Value} {m : Nat} {news : List Value} (hx : SrcOk P w x xt i.size m news) (hone : ∀ v ∈ news, v.oneCell' = true) (hroom : sLen + m ≤ sCap) (hfit : (sLen + m) * i.size ≤ cur.size) :
    (Builtin.append_ #[t, xt] ty #[.slice (some ⟨g, 0, none⟩) sLen sCap, x]).run P w = .ok (.slice (some ⟨g, 0, none⟩) (sLen + m) sCap)
      (w.setRow g (cur.toList.take (sLen * i.size) ++ news ++ cur.toList.drop (sLen * i.size + news.length)).toArray) := by
  have hfn := hx.cells w rfl
  have hlx := hx.len w
  have hst := run_storeCells_at P g (sLen * i.size) e news 0 cur w hgc (by rw [hx.length]; rw [Nat.add_mul] at hfit; simpa using hfit) hone
  simp only [Nat.add_zero] at hst
  have hadd : (⟨g, 0, none⟩ : Addr).add (sLen * i.size) = ⟨g, sLen * i.size, none⟩ := by rw [addr_lit_add, Nat.zero_add]
  rcases hx.ty with ⟨e', hxd⟩ | hxd
  · simp [Builtin.append_, run_underlying ht, run_underlying hxd, sizeOf, typeInfo, hi, hlx, hroom, hfn, hadd, hst]
  · simp [Builtin.append_, run_underlying ht, run_underlying hxd, sizeOf, typeInfo, hi, hlx, hroom, hfn, hadd, hst]

/-- append onto a row of one's own. -/
theorem append_own {R : RO} {w : World} {σ1 σ2 : Store} {v : Value} {E : TypeId} {sz : Nat} {l : List AV} {fl : Nat} (hs : St R w (σ1 ++ .row v E sz l fl :: σ2)) {t xt ty : TypeId} {i : TypeInfo} {z : Value} (ht : P.underlying t = some (.slice E)) (hi : P.info? E = some i) (hz : i.zero = some z)
    (hzs : z.cells.size = i.size) (hsi : i.size = sz) {x : Value} {news : List Value} {ys : List AV} (hx : SrcOk P w x xt i.size ys.length news) (hr : VRs R news (flat ys)) (hone : ∀ v ∈ news, v.oneCell' = true) (hys : ∀ y ∈ ys, y.cells.length = sz)
    (hb : (l.length + ys.length) * i.bytes ≤ 140737488355328) (hm : l.length + ys.length ≤ maxLen) :
    ∃ v' w', (Builtin.append_ #[t, xt] ty #[v, x]).run P w = .ok v' w' ∧ RowV v' (l.length + ys.length) ∧ St R w' (σ1 ++ .row v' E sz (l ++ ys) fl :: σ2) ∧ Ext R w (σ1 ++ .row v E sz l fl :: σ2) R w' (σ1 ++ .row v' E sz (l ++ ys) fl :: σ2) := by
  subst hsi
  obtain ⟨vs, hrv, hvo, hown, hsz0, hsz, hc⟩ := row_cells hs (v := v) (E := E) (sz := i.size) (l := l) (fl := fl) (by simp)
  obtain ⟨_, _, _, hmax, hflo⟩ := hs.ents (.row v E i.size l fl) (by simp)
  have hfl : flat (l ++ ys) = flat l ++ flat ys := flat_append _ _
  have hnewr : VRs R (vs ++ news) (flat (l ++ ys)) := by rw [hfl]; exact hrv.append hr
  have hsz' : ∀ e ∈ l ++ ys, e.cells.length = i.size := by
    intro e he
    rcases List.mem_append.1 he with he | he
    · exact hsz e he
    · exact hys e he
  have hone' : ∀ v ∈ vs ++ news, v.oneCell' = true := by
    intro v hv
    rcases List.mem_append.1 hv with hv | hv
    · exact hvo v hv
    · exact hone v hv
  have hlen : (vs ++ news).length = (l ++ ys).length * i.size := by rw [List.length_append, hown.1, hx.length, List.length_append, Nat.add_mul]
  have hp := List.pairwise_append.1 hs.apart
  have hp2 := List.pairwise_cons.1 hp.2.1
  -- a new block holds the row
  have grown : ∀ (old : Nat), old < l.length + ys.length → ∀ (w0 : World), w0 = w.drew.alloc (.cells (vs.toArray ++ news.toArray ++ Builtin.zeroCells z.cells (grownCap w (l.length + ys.length) old E - (l.length + ys.length))) E) →
      St R w0 (σ1 ++ .row (.slice (some ⟨w.heap.size, 0, none⟩) (l.length + ys.length) (grownCap w (l.length + ys.length) old E)) E i.size (l ++ ys) fl :: σ2) ∧
      Ext R w (σ1 ++ .row v E i.size l fl :: σ2) R w0 (σ1 ++ .row (.slice (some ⟨w.heap.size, 0, none⟩) (l.length + ys.length) (grownCap w (l.length + ys.length) old E)) E i.size (l ++ ys) fl :: σ2) := by
    intro old ho w0 hw0
    have hge := grownCap_ge w (l.length + ys.length) old E
    have hcm : grownCap w (l.length + ys.length) old E ≤ maxLen := grownCap_le_maxLen w _ old E hm
    have hold : ∀ k, k < w.heap.size → w0.heap[k]? = w.heap[k]? := fun k hk => by rw [hw0]; exact heap_alloc_old w.drew _ k hk
    have hnewb : w0.heap[w.heap.size]? = some (.cells (vs.toArray ++ news.toArray ++ Builtin.zeroCells z.cells (grownCap w (l.length + ys.length) old E - (l.length + ys.length))) E (0, 0)) := by rw [hw0]; exact heap_alloc_new w.drew _
    have hown' : w0.ownsRow 0 E i.size (.slice (some ⟨w.heap.size, 0, none⟩) (l.length + ys.length) (grownCap w (l.length + ys.length) old E)) (l ++ ys).length (vs ++ news) := by
      refine ⟨hlen, .inr ⟨w.heap.size, _, _, by rw [List.length_append], Nat.zero_le _, hnewb, by rw [List.length_append]; exact hge, hcm, ?_, ?_⟩⟩
      · simp only [Array.size_append, List.size_toArray, size_zeroCells, hzs, hown.1, hx.length, ← Nat.add_mul]
        congr 1
        omega
      · simp only [Array.toList_append, List.append_assoc]
        rw [← List.append_assoc, ← hlen]
        exact List.take_left
    have hent : EntOk R w0 (.row (.slice (some ⟨w.heap.size, 0, none⟩) (l.length + ys.length) (grownCap w (l.length + ys.length) old E)) E i.size (l ++ ys) fl) :=
      ⟨hsz0, hsz', ⟨_, hown', hnewr, hone'⟩, by rw [List.length_append]; exact hm, fun a x ha hab => by
        have := hs.roLt ha
        simp only [Value.ownBlock, Option.some.injEq] at hab
        omega⟩
    have keep : ∀ x ∈ σ1 ++ σ2, EntOk R w0 x := fun x hx => by
      have hm : x ∈ σ1 ++ .row v E i.size l fl :: σ2 := by
        rcases List.mem_append.1 hx with h | h
        · exact List.mem_append.2 (.inl h)
        · exact List.mem_append.2 (.inr (List.mem_cons_of_mem _ h))
      exact (hs.ents x hm).keep (fun _ _ h => h) (fun b hb => hold b ((hs.ents x hm).lt hb)) fun _ _ _ _ h _ => h
    refine ⟨⟨fun a v ha => by rw [World.cell?_of_block (hold _ (hs.roLt ha))]; exact hs.ro a v ha, fun x hx => ?_, ?_⟩, ⟨fun _ _ h => h, by rw [hw0]; rfl, by rw [hw0]; rfl, by rw [hw0]; rfl, by rw [hw0]; simp, fun k hk _ => hold k hk, fun k hk => ?_, fun _ _ h => .inl h⟩⟩
    · rcases List.mem_append.1 hx with hx | hx
      · exact keep x (List.mem_append.2 (.inl hx))
      · rcases List.mem_cons.1 hx with rfl | hx
        · exact hent
        · exact keep x (List.mem_append.2 (.inr hx))
    · have hlt : ∀ x ∈ σ1 ++ σ2, ∀ b, x.blk = some b → b < w.heap.size := fun x hx b hb => by
        have hm : x ∈ σ1 ++ .row v E i.size l fl :: σ2 := by
          rcases List.mem_append.1 hx with h | h
          · exact List.mem_append.2 (.inl h)
          · exact List.mem_append.2 (.inr (List.mem_cons_of_mem _ h))
        exact (hs.ents x hm).lt hb
      refine List.pairwise_append.2 ⟨hp.1, List.pairwise_cons.2 ⟨fun x hx b hb1 hb2 => ?_, hp2.2⟩, fun x hx y hy b hb1 => ?_⟩
      · simp only [Ent.blk, Value.ownBlock, Option.some.injEq] at hb1
        have := hlt x (List.mem_append.2 (.inr hx)) b hb2
        omega
      · rcases List.mem_cons.1 hy with rfl | hy
        · intro hb2
          simp only [Ent.blk, Value.ownBlock, Option.some.injEq] at hb2
          have := hlt x (List.mem_append.2 (.inl hx)) b hb1
          omega
        · exact hp.2.2 x hx y (List.mem_cons_of_mem _ hy) b hb1
    · obtain ⟨x, hx, hxb⟩ := mem_blks.1 hk
      rcases List.mem_append.1 hx with hx | hx
      · exact .inl (mem_blks.2 ⟨x, List.mem_append.2 (.inl hx), hxb⟩)
      · rcases List.mem_cons.1 hx with rfl | hx
        · simp only [Ent.blk, Value.ownBlock, Option.some.injEq] at hxb
          exact .inr (by omega)
        · exact .inl (mem_blks.2 ⟨x, List.mem_append.2 (.inr (List.mem_cons_of_mem _ hx)), hxb⟩)
  have hty : (∃ e, P.underlying t = some (.slice e)) ∨ P.underlying t = some .string := .inl ⟨_, ht⟩
  rcases hown.2 with ⟨rfl, hl0⟩ | ⟨g, cap, cur, rfl, _, hgc, hnc, hcm, hcs, htake⟩
  · have hl : l = [] := List.eq_nil_of_length_eq_zero hl0
    subst hl
    have hvs : vs = [] := List.eq_nil_of_length_eq_zero (by simpa using hown.1)
    subst hvs
    by_cases hy : ys = []
    · subst hy
      have hnw : news = [] := List.eq_nil_of_length_eq_zero (by simpa using hx.length)
      subst hnw
      refine ⟨.slice none 0 0, w, ?_, .inl ⟨rfl, rfl⟩, hs, Ext.refl _ _ _⟩
      have hlx := hx.len w
      have hfn := hx.cells w rfl
      simp at hlx hfn
      rcases hx.ty with ⟨e', hxd⟩ | hxd
      · simp [Builtin.append_, run_underlying ht, run_underlying hxd, sizeOf, typeInfo, hi, hlx, hfn]
      · simp [Builtin.append_, run_underlying ht, run_underlying hxd, sizeOf, typeInfo, hi, hlx, hfn]
    · have hpos : 0 < ys.length := List.length_pos_iff.2 hy
      have hd : SrcOk P w (.slice none 0 0) t i.size 0 [] := ⟨fun w' => rfl, hty, fun w' _ => by simp [Builtin.firstCells], by simp⟩
      have hrun := append_grow (P := P) (ty := ty) ht hi hz hd hx (by omega) (by simp only [maxLen] at hm; simp at hm; omega) (by simpa using hb) (.inl rfl)
      obtain ⟨g1, g2⟩ := grown 0 (by simpa using hpos) _ rfl
      simp only [List.length_nil, Nat.zero_add] at hrun g1 g2 ⊢
      exact ⟨_, _, hrun, by simpa using g1.rowV (List.mem_append_right _ List.mem_cons_self), g1, g2⟩
  · by_cases hroom : l.length + ys.length ≤ cap
    · have hfit : (l.length + ys.length) * i.size ≤ cur.size := by rw [hcs]; exact Nat.mul_le_mul_right _ hroom
      have hrun := append_room (P := P) (ty := ty) ht hi hgc hx hone hroom hfit
      refine ⟨_, _, hrun, .inr ⟨_, _, rfl, hroom⟩, ?_⟩
      have hx1 := hx.length
      rw [Nat.add_mul] at hfit
      refine st_change hs (e := .row (.slice (some ⟨g, 0, none⟩) l.length cap) E i.size l fl) (e' := .row (.slice (some ⟨g, 0, none⟩) (l.length + ys.length) cap) E i.size (l ++ ys) fl) (b := g) rfl rfl (by simp) (by simp) (by simp) (by simp) (fun k hk => setRow_other w g k _ hk) ?_ ?_
      · intro a v ha hab
        have hold := hs.ro a v ha
        obtain ⟨hoff, hfll⟩ := hflo a v ha (by simp [Value.ownBlock, hab])
        have hsp : a.spot = none := by
          unfold World.cell? at hold
          split at hold
          · cases hsp : a.spot with
            | none => rfl
            | some q => rw [hsp] at hold; simp at hold
          · cases hold
        obtain ⟨ab, ao, asp⟩ := a
        simp only at hab hoff hsp
        subst hab; subst hsp
        rw [cell_setRow_same w ab ao cur _ E (0, 0) hgc]
        have hle : fl * i.size ≤ l.length * i.size := Nat.mul_le_mul_right _ hfll
        have hlt' : ao < l.length * i.size := by omega
        have hcl : cur.toList.length = cap * i.size := by simpa using hcs
        rw [List.getElem?_toArray, List.append_assoc, List.getElem?_append_left (by rw [List.length_take, hcl]; omega), List.getElem?_take, if_pos hlt']
        rw [cell_of_row w ab ao cur E (0, 0) hgc] at hold
        simpa using hold
      · refine ⟨hsz0, hsz', ⟨_, ⟨hlen, .inr ⟨g, cap, _, by rw [List.length_append], Nat.zero_le _, setRow_heap w g cur _ E _ hgc, by rw [List.length_append]; exact hroom, hcm, ?_, ?_⟩⟩, hnewr, hone'⟩, by rw [List.length_append]; exact hm, fun a x ha hab => ⟨(hflo a x ha hab).1, by have := (hflo a x ha hab).2; rw [List.length_append]; omega⟩⟩
        · simp only [List.size_toArray, List.length_append, List.length_take, List.length_drop, Array.length_toList]
          omega
        · rw [htake, ← hlen]
          exact List.take_left
    · have hd : SrcOk P w (.slice (some ⟨g, 0, none⟩) l.length cap) t i.size l.length vs :=
        ⟨fun w' => rfl, hty, fun w' hw' => run_firstCells_some w' i.size l.length ⟨g, 0, none⟩ l.length cap vs hown.1 (fun j v hj => by
          rw [World.cell?_of_block (w := w) (by rw [hw'])]
          exact hc g _ _ rfl j v hj), hown.1⟩
      have hrun := append_grow (P := P) (ty := ty) ht hi hz hd hx (by omega) (by simp only [maxLen] at hm; omega) hb (.inr hnc)
      obtain ⟨g1, g2⟩ := grown cap (by omega) _ rfl
      exact ⟨_, _, hrun, by simpa using g1.rowV (List.mem_append_right _ List.mem_cons_self), g1, g2⟩

end Go.Ab
