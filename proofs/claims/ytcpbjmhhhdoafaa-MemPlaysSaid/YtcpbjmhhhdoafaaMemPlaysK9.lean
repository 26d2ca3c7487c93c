/- The texts that this claim needs, part 9: a logic over abstract values, its steps, what the functions do. No condition of its own. -/
import Derived.Lib.AppendZerosOnto
import Derived.Lib.Overlaps
import Derived.Test.YtcpbjmhhhdoafaaMemPlaysK8
/- slices.Insert at entries: behind the last one, in place, in a new row. -/
set_option linter.unusedVariables false
set_option linter.unusedSimpArgs false
namespace Go.Ab
section raw
variable {P : Program}
/-- append(s[:i], make(..)..) without room. -/
theorem rawB_appendZ {t tn e : TypeId} {zs : List Value} {sz by_ : Nat} (hrow : rowOf P t = some (e, zs, sz, by_)) (htn : P.underlying tn = some (.int .i64)) {v : Value} {i m : Nat} {σ : Store} {l : List AV} {fl : Nat}
    (hm : Ent.row v e sz l fl ∈ σ) (hi : i < l.length) (h0 : 0 < m) (hcap : capV v < i + m) (ho : ∀ z ∈ zs, z.oneCell' = true) (hb : (i + m) * by_ ≤ 140737488355328) (hmx : i + m ≤ maxLen) {k : AV → Store → Prop}
    (hk : ∀ v', v'.ownBlock ≠ none → (∀ e ∈ σ, e.blk ≠ v'.ownBlock) → k (.own v' (i + m)) (.row v' e sz (l.take i ++ List.replicate m (mkE (zs.map .val))) 0 :: σ)) : rawB P .append #[t, tn] [.sub v sz 0 i, .val (.int .i64 ((m : Nat) : Int))] σ k := by
  intro R w xs hv hs ty cs
  obtain ⟨vs, hr, hone, hown, hz0, hsz, hc⟩ := row_cells hs hm
  obtain ⟨x, y, rfl⟩ : ∃ x y, xs = [x, y] := by
    match xs, hv.1 with
    | [x, y], _ => exact ⟨x, y, rfl⟩
  have hx := (hv.2 0 _ _ rfl rfl).sub_inv
  have hy := (hv.2 1 _ _ rfl rfl).val_inv
  subst hy
  obtain ⟨hu, inf, z, hi2, hiz, hzs, hlen, hsz2, hby, hpos⟩ := rowOf_run hrow
  rcases hown.2 with ⟨rfl, h00⟩ | ⟨g, cap, cur, rfl, _, ⟨fz, hfz, hh⟩, hle, hcm, hcs, htk⟩
  · omega
  simp only [capV] at hcap
  rcases hx with ⟨h1, _⟩ | ⟨g', n0, cap', p, h1, hle2, hp, rfl⟩
  · cases h1
  simp only [Value.slice.injEq, Option.some.injEq, Addr.mk.injEq, and_true, true_and] at h1
  obtain ⟨rfl, rfl, rfl⟩ := h1
  have hp' : p = ⟨g, 0, none⟩ := by rw [hp (by omega)]; simp
  subst hp'
  have hvl : vs.length = l.length * sz := hown.1
  have his : i * sz ≤ l.length * sz := Nat.mul_le_mul_right _ (by omega)
  have hold : (Builtin.firstCells inf.size i (.slice (some ⟨g, 0, none⟩) i (cap - 0))).run P w.drew = .ok (vs.take (i * sz)).toArray w.drew := by
    rw [hsz2]
    refine run_firstCells_some w.drew sz i ⟨g, 0, none⟩ i (cap - 0) (vs.take (i * sz)) (by rw [List.length_take, hvl]; omega) fun j u hj => ?_
    rw [List.getElem?_take] at hj
    split at hj
    · exact hc g _ cap rfl j u hj
    · cases hj
  have h48 : m * inf.bytes ≤ 281474976710656 := by
    have : m * by_ ≤ (i + m) * by_ := Nat.mul_le_mul_right _ (by omega)
    rw [hby]; omega
  have hrun := Lib.run_append_grow_zeros w t tn ty e inf z .i64 .i64 hu htn hi2 hiz (some ⟨g, 0, none⟩) i (cap - 0) (vs.take (i * sz)) hold m h0 (by rw [hsz2]; exact hz0) (by omega) (by simp only [maxLen] at hmx; omega) h48 (growslice_fits (by omega) (by rw [hby]; exact hb))
  have hge := grownCap_ge w (i + m) (cap - 0) e
  have hcm2 : grownCap w (i + m) (cap - 0) e ≤ maxLen := grownCap_le_maxLen w _ (cap - 0) e hmx
  generalize grownCap w (i + m) (cap - 0) e = G at hrun hge hcm2
  have hzt : z.cells = zs.toArray := by rw [← hzs]
  have hzc : ∀ n, Builtin.zeroCells z.cells n = ((List.replicate n zs).flatten).toArray := fun n => by
    rw [hzt]
    unfold Builtin.zeroCells
    rw [show zs.toArray.size = zs.length by simp]
    exact zero_cells zs n (by omega)
  have hmk := mkE_vals (zs := zs) ho
  have hlen3 : (l.take i ++ List.replicate m (mkE (zs.map .val))).length = i + m := by simp; omega
  have hfl : flat (l.take i ++ List.replicate m (mkE (zs.map .val))) = (flat l).take (i * sz) ++ ((List.replicate m zs).flatten).map .val := by
    rw [flat_append, flat_take hsz, flat_replicate, hmk]; simp [List.map_flatten]
  have hlz : ((List.replicate m zs).flatten).length = m * sz := by simp [hlen]
  have hl2 : (vs.take (i * sz) ++ (List.replicate m zs).flatten).length = (i + m) * sz := by rw [List.length_append, List.length_take, hlz, hvl, Nat.add_mul]; omega
  obtain ⟨g1, g2⟩ := st_newRow (R := R) (w' := w.drew.alloc (.cells ((vs.take (i * sz)).toArray ++ Builtin.zeroCells z.cells m ++ Builtin.zeroCells z.cells (G - (i + m))) e)) hs
    ⟨rfl, rfl, rfl, by simp, fun k hk _ => by first | exact heap_alloc_old w.drew _ k hk | exact heap_alloc_old w.drew _ hk⟩ (v := .slice (some ⟨w.heap.size, 0, none⟩) (i + m) G) (E := e) (sz := sz) (l := l.take i ++ List.replicate m (mkE (zs.map .val))) (vs := vs.take (i * sz) ++ (List.replicate m zs).flatten)
    ⟨by rw [hlen3]; exact hl2, .inr ⟨w.heap.size, G, _, by rw [hlen3], Nat.zero_le _, ⟨(0, 0), .inl rfl, heap_alloc_new w.drew _⟩, by rw [hlen3]; exact hge, hcm2, by
      have e1 : (i + m) * sz + (G - (i + m)) * sz = G * sz := by rw [← Nat.add_mul]; congr 1; omega
      rw [hzc, hzc]
      simp only [Array.size_append, List.size_toArray, List.length_flatten, List.map_replicate, List.sum_replicate_nat, hlen, List.length_take, hvl]
      rw [Nat.add_mul] at e1
      omega, by
      rw [hzc, hzc, hlen3, ← hl2]
      simp only [Array.toList_append]
      exact List.take_left⟩⟩ (by rw [hfl]; exact (hr.take _).append (VRs.ofVals R _)) (by
      intro v hv
      rcases List.mem_append.1 hv with hv | hv
      · exact hone v (List.mem_of_mem_take hv)
      · simp only [List.mem_flatten, List.mem_replicate] at hv; obtain ⟨q, ⟨_, hq⟩, hv2⟩ := hv; rw [hq] at hv2; exact ho v hv2) hz0 (by
      intro y hy
      rcases List.mem_append.1 hy with hy | hy
      · exact hsz y (List.mem_of_mem_take hy)
      · rw [(List.mem_replicate.1 hy).2, hmk]; simp [hlen]) (by rw [hlen3]; exact hmx) (by intro b hb; simp only [Value.ownBlock, Option.some.injEq] at hb; omega)
  refine ⟨_, _, _, R, _, ?_, hk (.slice (some ⟨w.heap.size, 0, none⟩) (i + m) G) (by simp [Value.ownBlock]) ?_, .own (by simpa [hlen3] using g1.rowV List.mem_cons_self), g1, g2⟩
  · simp only [builtin, Sem.run_bind]
    rw [show ([Value.slice (some ⟨g, 0, none⟩) i (cap - 0), Value.int .i64 ((m : Nat) : Int)] : List Value).toArray = #[Value.slice (some ⟨g, 0, none⟩) i (cap - 0), Value.int .i64 ((m : Nat) : Int)] from rfl, hrun]
    rfl
  · intro e he hb
    have := (hs.ents e he).lt (b := w.heap.size) hb
    omega
/-- The value of a row with another length. -/
def reV : Value → Nat → Value
  | .slice a _ c, n => .slice a n c
  | v, _ => v
/-- Memory of two rows of one's own, held against one another. -/
theorem rawC_overlaps {f : FuncId} {fn : Func} {tS tR e : TypeId} (hf : P.funcs[f]? = some fn) (hname : (fn.name == "runtime.NumGoroutine") = false) (hb : fn.body.isNone = true) (hn : Extern.findNext fn = none)
    (he : Extern.find fn = some (Extern.SlicesOverlaps.overlaps #[tS, tS] #[tR])) {sz : Nat} (hsz : szOf P tS = some (e, sz)) {y v : Value} {Ey E : TypeId} {sy s fy fl a n m q : Nat} {ly l : List AV} (h0 : 0 < ly.length) (h1 : 0 < l.length) (hsy : sy ≠ 1) (hc : a < capV v) {k : AV → Store → Prop}
    (hk : k (.val (.bool false)) [.row y Ey sy ly fy, .row v E s l fl]) : rawC P f [.own y m, .sub (reV v q) s a n] [.row y Ey sy ly fy, .row v E s l fl] k := by
  intro R w xs hv hs
  obtain ⟨x, z, rfl⟩ : ∃ x z, xs = [x, z] := by
    match xs, hv.1 with
    | [x, z], _ => exact ⟨x, z, rfl⟩
  obtain ⟨hy, _⟩ := (hv.2 0 _ _ rfl rfl).own_inv
  subst hy
  have hz := (hv.2 1 _ _ rfl rfl).sub_inv
  obtain ⟨vs, hr, hone, hown, hz0, hsz', hcc⟩ := row_cells hs (v := x) (E := Ey) (sz := sy) (l := ly) (fl := fy) List.mem_cons_self
  obtain ⟨ws, hr2, hone2, hown2, hz2, hsz2, hcc2⟩ := row_cells hs (v := v) (E := E) (sz := s) (l := l) (fl := fl) (List.mem_cons_of_mem _ List.mem_cons_self)
  rcases (hown.plain hsy).2 with ⟨rfl, h00⟩ | ⟨g, cap, cur, rfl, _, hh, hle, hcm, hcs, htk⟩
  · omega
  rcases hown2.2 with ⟨rfl, h00⟩ | ⟨g2, cap2, cur2, rfl, _, ⟨fz2, hfz2, hh2⟩, hle2, hcm2, hcs2, htk2⟩
  · omega
  simp only [capV] at hc
  simp only [reV] at hz
  rcases hz with ⟨h2, _⟩ | ⟨g', n0, cap', p, h2, hle3, hp, rfl⟩
  · cases h2
  simp only [Value.slice.injEq, Option.some.injEq, Addr.mk.injEq, and_true, true_and] at h2
  obtain ⟨rfl, rfl, rfl⟩ := h2
  have hne : g ≠ g2 := by
    intro e
    subst e
    exact (List.pairwise_cons.1 hs.apart).1 _ List.mem_cons_self g rfl rfl
  rw [hp hc]
  obtain ⟨i, ht, hi, his⟩ : ∃ i, P.underlying tS = some (.slice e) ∧ P.info? e = some i ∧ i.size = sz := by
    unfold szOf at hsz
    split at hsz
    · rename_i e' hu
      cases hie : P.info? e' with
      | none => rw [hie] at hsz; cases hsz
      | some i =>
        rw [hie] at hsz
        simp only [Option.map_some, Option.some.injEq, Prod.mk.injEq] at hsz
        obtain ⟨rfl, rfl⟩ := hsz
        exact ⟨i, hu, hie, rfl⟩
    · cases hsz
  refine ⟨_, w, _, R, _, ?_, hk, .val _, hs, Ext.refl _ _ _⟩
  rw [run_callFunc_extern hf hname hb hn he]
  have := Lib.run_overlaps_apart (P := P) w tS tR e ht sz (fun w => by simp [sizeOf, typeInfo, hi, his]) ⟨g, 0, none⟩ ⟨g2, a * s, none⟩ ly.length cap n (cap2 - a) hne Ey E cur.size cur2.size (by simp [World.shape?, hh]) (by simp [World.shape?, hh2]) (by
    rw [hcs2]
    exact Nat.mul_ne_zero (by omega) (by omega)) (by simp [World.frozen?, hh]) (by simp [World.frozen?, hh])
  rw [show ([Value.slice (some ⟨g, 0, none⟩) ly.length cap, Value.slice (some ⟨g2, a * s, none⟩) n (cap2 - a)] : List Value).toArray = #[Value.slice (some ⟨g, 0, none⟩) ly.length cap, Value.slice (some ⟨g2, a * s, none⟩) n (cap2 - a)] from rfl, this]
  rfl
/-- Cells of a row are written, the last ones behind its end. -/
theorem row_grow {R : RO} {w : World} {σ1 σ2 : Store} {g n0 cap : Nat} {E : TypeId} {sz : Nat} {l ys : List AV} {news : List Value} (hs : St R w (σ1 ++ .row (.slice (some ⟨g, 0, none⟩) n0 cap) E sz l 0 :: σ2)) {a : Nat}
    (hr : VRs R news (flat ys)) (hone : ∀ v ∈ news, v.oneCell' = true) (hys : ∀ y ∈ ys, y.cells.length = sz) (ha : a ≤ l.length) (hle : l.length ≤ a + ys.length) (hcp : a + ys.length ≤ cap) (hmx : a + ys.length ≤ maxLen) :
    ∃ w', (storeCells ⟨g, a * sz, none⟩ news).run P w = .ok () w' ∧ St R w' (σ1 ++ .row (.slice (some ⟨g, 0, none⟩) (a + ys.length) cap) E sz (l.take a ++ ys) 0 :: σ2) ∧
      Ext R w (σ1 ++ .row (.slice (some ⟨g, 0, none⟩) n0 cap) E sz l 0 :: σ2) R w' (σ1 ++ .row (.slice (some ⟨g, 0, none⟩) (a + ys.length) cap) E sz (l.take a ++ ys) 0 :: σ2) := by
  obtain ⟨vs, hvr, hvo, hown, hsz0, hsz, hc⟩ := row_cells hs (v := .slice (some ⟨g, 0, none⟩) n0 cap) (E := E) (sz := sz) (l := l) (fl := 0) (by simp)
  have hent0 := hs.ents (.row (.slice (some ⟨g, 0, none⟩) n0 cap) E sz l 0) (by simp)
  obtain ⟨_, _, _, hmax, hflo⟩ := hent0
  rcases hown.2 with ⟨h0, _⟩ | ⟨g', cap', cur, hvv, _, ⟨fz, hfz, hh⟩, hnc, hcm, hcs, htake⟩
  · cases h0
  · simp only [Value.slice.injEq, Option.some.injEq, Addr.mk.injEq, and_true, true_and] at hvv
    obtain ⟨rfl, hn, rfl⟩ := hvv
    have hnl : news.length = ys.length * sz := by rw [hr.1, flat_length hys]
    have hbnd : (a + ys.length) * sz ≤ cap * sz := Nat.mul_le_mul_right _ hcp
    have hal : a * sz ≤ l.length * sz := Nat.mul_le_mul_right _ ha
    have hcap : l.length * sz ≤ cap * sz := Nat.mul_le_mul_right _ hnc
    have hcs' : cur.size = cap * sz := hcs
    have hadd : (a + ys.length) * sz = a * sz + ys.length * sz := Nat.add_mul _ _ _
    have hst := run_storeCellsM P g (a * sz) E fz news 0 cur w hh (hfz.imp id (·.2)) (by rw [hnl]; omega) hone
    simp only [Nat.add_zero] at hst
    refine ⟨_, hst, ?_⟩
    have hvl : vs.length = l.length * sz := by rw [hvr.1, flat_length hsz]
    have hflat : flat (l.take a ++ ys) = (flat l).take (a * sz) ++ flat ys := by rw [flat_append, flat_take hsz]
    have hnew : VRs R (vs.take (a * sz) ++ news) (flat (l.take a ++ ys)) := by
      rw [hflat]
      exact (hvr.take _).append hr
    have hlen2 : (l.take a ++ ys).length = a + ys.length := by simp; omega
    have hwin : (cur.toList.take (a * sz) ++ news ++ cur.toList.drop (a * sz + news.length)).take ((a + ys.length) * sz) = vs.take (a * sz) ++ news := by
      rw [← htake, List.take_take, Nat.min_eq_left hal]
      refine List.take_left' ?_
      rw [List.length_append, List.length_take, Array.length_toList, hnl]
      omega
    have hsz2 : ∀ e ∈ l.take a ++ ys, e.cells.length = sz := by
      intro e he
      simp only [List.mem_append] at he
      rcases he with he | he
      · exact hsz e (List.mem_of_mem_take he)
      · exact hys e he
    refine st_change hs (e := .row (.slice (some ⟨g, 0, none⟩) n0 cap) E sz l 0) (e' := .row (.slice (some ⟨g, 0, none⟩) (a + ys.length) cap) E sz (l.take a ++ ys) 0) (b := g) rfl rfl (by simp) (by simp) (by simp) (by simp) (fun k hk => setRow_other w g k _ hk) ?_ ?_
    · intro b v hb hab
      have := (hflo b v hb (by simp [Value.ownBlock, hab])).1
      omega
    · refine ⟨hsz0, hsz2, ⟨_, ⟨by rw [hnew.1, flat_length hsz2], .inr ⟨g, cap, _, by rw [hlen2], Nat.zero_le _, ⟨fz, hfz.imp id (fun h => ⟨h.1, by have h2 := h.2; simp only [List.size_toArray, List.length_append, List.length_take, List.length_drop, Array.length_toList]; omega⟩), setRow_heap w g cur _ E _ hh⟩, by rw [hlen2]; exact hcp, hcm, ?_, by rw [hlen2]; exact hwin⟩⟩, hnew, ?_⟩, by rw [hlen2]; exact hmx, fun b v hb hv => ?_⟩
      · simp only [List.size_toArray, List.length_append, List.length_take, Array.length_toList, List.length_drop, hcs']; omega
      · intro v hv
        simp only [List.mem_append] at hv
        rcases hv with hv | hv
        · exact hvo v (List.mem_of_mem_take hv)
        · exact hone v hv
      · have := (hflo b v hb hv).1
        omega
theorem szOf_run {t E : TypeId} {sz : Nat} (hsz : szOf P t = some (E, sz)) : ∃ i, P.underlying t = some (.slice E) ∧ P.info? E = some i ∧ i.size = sz := by
  unfold szOf at hsz
  split at hsz
  · rename_i e' hu
    cases hie : P.info? e' with
    | none => rw [hie] at hsz; cases hsz
    | some i =>
      rw [hie] at hsz
      simp only [Option.map_some, Option.some.injEq, Prod.mk.injEq] at hsz
      obtain ⟨rfl, rfl⟩ := hsz
      exact ⟨i, hu, hie, rfl⟩
  · cases hsz
/-- The last elements of a row move by one. -/
theorem rawB_shift {t xt E : TypeId} {sz : Nat} (hz : szOf P t = some (E, sz)) {v : Value} {i m : Nat} {σ1 σ2 : Store} {l : List AV} (hl : l.length = i + m) (h0 : 0 < m) (hc : l.length + 1 ≤ capV v) (hmx : l.length + 1 ≤ maxLen) {k : AV → Store → Prop}
    (hk : k (.val (.int .i64 ((m : Nat) : Int))) (σ1 ++ .row (reV v (l.length + 1)) E sz (l.take (i + 1) ++ l.drop i) 0 :: σ2)) :
    rawB P .copy #[t, xt] [.sub (reV v (l.length + 1)) sz (i + 1) m, .sub (reV v (l.length + 1)) sz i (m + 1)] (σ1 ++ .row v E sz l 0 :: σ2) k := by
  intro R w xs hv hs ty cs
  obtain ⟨x, y, rfl⟩ : ∃ x y, xs = [x, y] := by
    match xs, hv.1 with
    | [x, y], _ => exact ⟨x, y, rfl⟩
  have hx := (hv.2 0 _ _ rfl rfl).sub_inv
  have hy := (hv.2 1 _ _ rfl rfl).sub_inv
  obtain ⟨vs, hr, hone, hown, hz0, hsz, hcc⟩ := row_cells hs (v := v) (E := E) (sz := sz) (l := l) (fl := 0) (by simp)
  rcases hown.2 with ⟨rfl, h00⟩ | ⟨g, cap, cur, rfl, _, ⟨fz, hfz, hh⟩, hle, hcm, hcs, htk⟩
  · omega
  simp only [capV] at hc
  simp only [reV] at hx hy hk
  obtain ⟨inf, ht, hi, his⟩ := szOf_run hz
  rcases hx with ⟨h1, _⟩ | ⟨g', n0, cap', p, h1, hle2, hp, rfl⟩
  · cases h1
  simp only [Value.slice.injEq, Option.some.injEq, Addr.mk.injEq, and_true, true_and] at h1
  obtain ⟨rfl, rfl, rfl⟩ := h1
  rcases hy with ⟨h1, _⟩ | ⟨g', n0, cap', p2, h1, hle3, hp2, rfl⟩
  · cases h1
  simp only [Value.slice.injEq, Option.some.injEq, Addr.mk.injEq, and_true, true_and] at h1
  obtain ⟨rfl, rfl, rfl⟩ := h1
  rw [hp (by omega), hp2 (by omega)]
  have hvl : vs.length = l.length * sz := hown.1
  have hdl : (vs.drop (i * sz)).length = m * sz := by rw [List.length_drop, hvl, hl, Nat.add_mul]; omega
  have hread : (Builtin.firstCells sz m (.slice (some ⟨g, i * sz, none⟩) (m + 1) (cap - i))).run P w = .ok (vs.drop (i * sz)).toArray w :=
    run_firstCells_some w sz m ⟨g, i * sz, none⟩ (m + 1) (cap - i) (vs.drop (i * sz)) hdl fun j u hj => by
      rw [addr_lit_add]
      have := hcc g _ cap rfl (i * sz + j) u (by simpa using hj)
      rw [addr_lit_add, Nat.zero_add] at this
      exact this
  have hlen : (l.drop i).length = m := by rw [List.length_drop, hl]; omega
  obtain ⟨w', hst, g1, g2⟩ := row_grow (P := P) hs (a := i + 1) (ys := l.drop i) (news := vs.drop (i * sz)) (by rw [flat_drop hsz]; exact hr.drop _) (fun v hv => hone v (List.mem_of_mem_drop hv)) (fun y hy => hsz y (List.mem_of_mem_drop hy)) (by omega) (by omega) (by omega) (by omega)
  have e1 : i + 1 + (l.drop i).length = l.length + 1 := by omega
  rw [e1] at g1 g2
  refine ⟨.int .i64 ((m : Nat) : Int), w', _, R, _, ?_, hk, .val _, g1, g2⟩
  have hmin : Nat.min (m + 1) m = m := Nat.min_eq_right (by omega)
  have hszr : (sizeOf E).run P w = .ok sz w := by simp [sizeOf, typeInfo, hi, his]
  simp [builtin, Builtin.copy_, run_underlying ht, hszr, Builtin.lenOf, hmin, hread, hst, goInt]
/-- A row told as a part of itself, and back. -/
theorem Sub.part {σ : Store} {v : Value} {E : TypeId} {sz fl n : Nat} {l : List AV} (hm : Ent.row v E sz l fl ∈ σ) (h0 : 0 < l.length) (m : Nat) (us : List AV) : Sub σ (.own v n :: us) σ (.sub (reV v m) sz 0 n :: us) := by
  intro R w vs hv hs
  obtain ⟨ws, hr, hone, hown, hz0, hsz, hcc⟩ := row_cells hs hm
  obtain ⟨hl, hx⟩ := hv
  match vs, hl with
  | x :: vs, hl =>
    obtain ⟨e, hrow⟩ := (hx 0 _ x rfl rfl).own_inv
    subst e
    refine ⟨R, VRs.cons ?_ ⟨by simpa using hl, fun j u y hu hy => hx (j + 1) u y (by simpa using hu) (by simpa using hy)⟩, hs, Ext.refl _ _ _⟩
    rcases hown.2 with ⟨rfl, h00⟩ | ⟨g, cap, cur, rfl, _, ⟨fz, hfz, hh⟩, hle, hcm, hcs, htk⟩
    · omega
    · rcases hrow with ⟨h1, _⟩ | ⟨g', cap', h1, h2⟩
      · cases h1
      · simp only [Value.slice.injEq, Option.some.injEq, Addr.mk.injEq, and_true, true_and] at h1
        obtain ⟨rfl, rfl, rfl⟩ := h1
        exact .sub (.inr ⟨g, m, cap, ⟨g, 0, none⟩, rfl, by omega, fun _ => by simp, by simp⟩)
theorem Sub.whole {σ : Store} {v : Value} {E : TypeId} {sz fl n : Nat} {l : List AV} (hm : Ent.row v E sz l fl ∈ σ) (h0 : 0 < n) (hn : l.length = n) (us : List AV) : Sub σ (.sub v sz 0 n :: us) σ (.own v n :: us) := by
  intro R w vs hv hs
  obtain ⟨ws, hr, hone, hown, hz0, hsz, hcc⟩ := row_cells hs hm
  obtain ⟨hl, hx⟩ := hv
  match vs, hl with
  | x :: vs, hl =>
    have h := (hx 0 _ x rfl rfl).sub_inv
    refine ⟨R, VRs.cons ?_ ⟨by simpa using hl, fun j u y hu hy => hx (j + 1) u y (by simpa using hu) (by simpa using hy)⟩, hs, Ext.refl _ _ _⟩
    rcases hown.2 with ⟨rfl, h00⟩ | ⟨g, cap, cur, rfl, _, ⟨fz, hfz, hh⟩, hle, hcm, hcs, htk⟩
    · omega
    · rcases h with ⟨h1, _⟩ | ⟨g', n0, cap', p, h1, h2, hp, rfl⟩
      · cases h1
      · simp only [Value.slice.injEq, Option.some.injEq, Addr.mk.injEq, and_true, true_and] at h1
        obtain ⟨rfl, rfl, rfl⟩ := h1
        have e : p = ⟨g, 0, none⟩ := by rw [hp (by omega)]; simp
        subst e
        have : Value.slice (some ⟨g, 0, none⟩) n (cap - 0) = .slice (some ⟨g, 0, none⟩) l.length cap := by rw [hn]; rfl
        rw [this]
        exact .own (.inr ⟨g, cap, by rw [hn], by omega⟩)
theorem St.two {R : RO} {w : World} {y v : Value} {Ey E : TypeId} {sy s fy fl : Nat} {ly l : List AV} (hs : St R w [.row y Ey sy ly fy, .row v E s l fl]) (hl : 0 < l.length) : y.ownBlock ≠ v.ownBlock := by
  intro e
  obtain ⟨vs, hr, hone, hown, hz0, hsz, hc⟩ := row_cells hs (v := v) (E := E) (sz := s) (l := l) (fl := fl) (List.mem_cons_of_mem _ List.mem_cons_self)
  rcases hown.2 with ⟨h1, h2⟩ | ⟨g, cap, cur, rfl, _⟩
  · omega
  · exact (List.pairwise_cons.1 hs.apart).1 _ List.mem_cons_self g (by show y.ownBlock = _; rw [e]; rfl) rfl
theorem reV_block (v : Value) (n : Nat) : (reV v n).ownBlock = v.ownBlock := by
  unfold reV
  split
  · rename_i a b c; cases a <;> rfl
  · rfl
/-- A copy into a part of a row that stands alone under its name. -/
theorem cpSub {t xt E : TypeId} {v : Value} {a n sz : Nat} {x : AV} {σ1 σ2 : Store} {l ys : List AV} {k : AV → Store → Prop} (hz : szOf P t = some (E, sz)) (hs : srcP sz (σ1 ++ .row v E sz l 0 :: σ2) x ys)
    (hu : ∀ e ∈ σ1 ++ σ2, ∀ E' s' l' f', e ≠ .row v E' s' l' f') (hle : a + n ≤ l.length)
    (hk : k (.val (.int .i64 ((min ys.length n : Nat) : Int))) (σ1 ++ .row v E sz (l.take a ++ ys.take (min ys.length n) ++ l.drop (a + min ys.length n)) 0 :: σ2)) : aHook (eCopy P t xt (.sub v sz a n) x (σ1 ++ .row v E sz l 0 :: σ2)) k := by
  refine ⟨_, .inl ⟨sz, ys, hs, ⟨rfl, E, l, hz, by simp, hle⟩, rfl⟩, ?_⟩
  rintro u σ' ⟨E', l', τ1, τ2, e, rfl, rfl⟩
  have : τ1 = σ1 ∧ E' = E ∧ l' = l ∧ τ2 = σ2 := by
    rcases List.append_eq_append_iff.1 e with ⟨ρ, h1, h2⟩ | ⟨ρ, h1, h2⟩
    · cases ρ with
      | nil =>
        simp only [List.nil_append, List.cons.injEq, Ent.row.injEq] at h2
        obtain ⟨⟨_, rfl, _, rfl, _⟩, rfl⟩ := h2
        exact ⟨by rw [h1]; simp, rfl, rfl, rfl⟩
      | cons r ρ =>
        simp only [List.cons_append, List.cons.injEq] at h2
        obtain ⟨_, rfl⟩ := h2
        exact absurd rfl (hu (.row v E' sz l' 0) (by simp) E' sz l' 0)
    · cases ρ with
      | nil =>
        simp only [List.nil_append, List.cons.injEq, Ent.row.injEq] at h2
        obtain ⟨⟨_, rfl, _, rfl, _⟩, rfl⟩ := h2
        exact ⟨by rw [h1]; simp, rfl, rfl, rfl⟩
      | cons r ρ =>
        simp only [List.cons_append, List.cons.injEq] at h2
        obtain ⟨rfl, _⟩ := h2
        exact absurd rfl (hu (.row v E' sz l' 0) (by rw [h1]; simp) E' sz l' 0)
  obtain ⟨rfl, rfl, rfl, rfl⟩ := this
  exact hk
end raw
end Go.Ab

/- slices.Insert at entries, walked. -/
set_option linter.unusedVariables false
set_option linter.unusedSimpArgs false
namespace Go.Ab
def slices_Insert.mark : Mark := ⟨fun t => false, fun t => false, fun t => false, fun t => false, fun t => false⟩
def slices_Insert.ann : Ann := ⟨fun n => [], fun n => none, fun n => none⟩
/-- 'slices.Insert[[]marlstone/api.Entry,marlstone/api.Entry]' -/
def slices_Insert.sh (a0 a1 a2 : AV) (σ : Store) (Q : AEnd → Store → Prop) : Prop :=
  Do (aSlice .slice 4 a0 (some a1) none none) fun t12 =>
  Do (aBuiltin Go.Proofs.Try.prog .len #[39] [a2]) fun t14 =>
  Do (aBin Go.Proofs.Try.prog .eql 3 t14 (.val (.int .i64 0))) fun t16 =>
  aCond t16
    (Q (.ret a0) σ)
    (Do (aBuiltin Go.Proofs.Try.prog .len #[39] [a0]) fun t19 =>
  Do (aBin Go.Proofs.Try.prog .eql 3 a1 t19) fun t22 =>
  aCond t22
    (aAppend 29 4 48 a0 a2 σ (subK fun t25 σ =>
    Q (.ret t25) σ))
    (Do (aBin Go.Proofs.Try.prog .add 3 t19 t14) fun t28 =>
  Do (aBuiltin Go.Proofs.Try.prog .cap #[39] [a0]) fun t30 =>
  Do (aBin Go.Proofs.Try.prog .gtr 3 t28 t30) fun t31 =>
  aCond t31
    (Do (aSlice .slice 4 a0 none (some a1) none) fun t34 =>
    Do (aBin Go.Proofs.Try.prog .add 3 t19 t14) fun t37 =>
    Do (aBin Go.Proofs.Try.prog .sub 3 t37 a1) fun t39 =>
    rawB Go.Proofs.Try.prog .append #[39, 3] [t34, t39] σ fun t40 σ_1 =>
    Do (aSlice .slice 4 t40 (some a1) none none) fun t43 =>
    aHook (eCopy Go.Proofs.Try.prog 39 39 t43 a2 σ_1) fun t45 σ_2 =>
    Do (aBin Go.Proofs.Try.prog .add 3 a1 t14) fun t49 =>
    Do (aSlice .slice 4 t40 (some t49) none none) fun t50 =>
    Do (aSlice .slice 4 a0 (some a1) none none) fun t53 =>
    aHook (eCopy Go.Proofs.Try.prog 39 39 t50 t53 σ_2) fun t54 σ_3 =>
    Q (.ret t40) σ_3)
    (Do (aBin Go.Proofs.Try.prog .add 3 t19 t14) fun t59 =>
  Do (aSlice .slice 4 a0 none (some t59) none) fun t60 =>
  Do (aBin Go.Proofs.Try.prog .add 3 a1 t14) fun t65 =>
  Do (aSlice .slice 4 t60 (some t65) none none) fun t66 =>
  aCall Go.Proofs.Try.prog 47 [a2, t66] σ (fun t67 σ_4 =>
  Do (aUn Go.Proofs.Try.prog .not t67) fun t68 =>
  aCond t68
    (Do (aBin Go.Proofs.Try.prog .add 3 a1 t14) fun t72 =>
    Do (aSlice .slice 4 t60 (some t72) none none) fun t73 =>
    Do (aSlice .slice 4 t60 (some a1) none none) fun t76 =>
    aHook (eCopy Go.Proofs.Try.prog 39 39 t73 t76 σ_4) fun t77 σ_5 =>
    Do (aSlice .slice 4 t60 (some a1) none none) fun t80 =>
    aHook (eCopy Go.Proofs.Try.prog 39 39 t80 a2 σ_5) fun t82 σ_6 =>
    Q (.ret t60) σ_6)
    (Do (aSlice .slice 4 t60 (some t19) none none) fun t86 =>
  aHook (eCopy Go.Proofs.Try.prog 39 39 t86 a2 σ_4) fun t88 σ_7 =>
  Do (aSlice .slice 4 t60 (some a1) none none) fun t91 =>
  aCall Go.Proofs.Try.prog 48 [t91, t14] σ_7 (fun t93 σ_8 =>
  Q (.ret t60) σ_8) (fun e σ_9 => Q (.pan e) σ_9))) (fun e_1 σ_10 => Q (.pan e_1) σ_10))))
theorem slices_Insert.eq (a0 a1 a2 : AV) (σ : Store) (Q : AEnd → Store → Prop) : vc (semOf Go.Proofs.Try.prog slices_Insert.mark) Go.Proofs.Try.f31.ntmps slices_Insert.ann (bodyOf Go.Proofs.Try.f31) (endK [.tmp 6] Q) (argFr [a0, a1, a2]) σ = slices_Insert.sh a0 a1 a2 σ Q := by kernel_rfl
theorem slices_Insert.go {a0 a1 a2 : AV} {σ : Store} {Q : AEnd → Store → Prop} (h : slices_Insert.sh a0 a1 a2 σ Q) : ACalls Go.Proofs.Try.prog 31 [a0, a1, a2] σ Q :=
  acalls_of_eq [.tmp 6] Go.Proofs.Try.func31 (by kernel_rfl) (by kernel_rfl) (by kernel_rfl) (by kernel_rfl) (slices_Insert.eq a0 a1 a2 σ Q) h
theorem Insert_end (v y : Value) (l : List En) (e : En) (hl : l.length ≤ 1000000) : ACalls Go.Proofs.Try.prog 31 [.own v l.length, I .i64 (l.length : Nat), .own y ([e] : List En).length] [.row y 29 4 ([e].map En.av) 0, .row v 29 4 (l.map En.av) 0]
    fun x σ' => ∃ v', x = .ret (.own v' (l.length + 1)) ∧ σ' = [.row v' 29 4 ((l ++ [e]).map En.av) 0] := by
  refine ACalls.fin (slices_Insert.go ?_)
  unfold slices_Insert.sh
  have h0 : ¬ ([e] : List En).length = 0 := by simp
  repeat' (first | with_reducible apply Stp.go | with_reducible refine imp fun _ => ?_ | (with_reducible refine hyp ?_ ?_; first | assumption | exact leftT_mem (by assumption)) | (with_reducible refine need ?_ ?_; first | trivial | omega | exact ⟨by assumption, by omega⟩ | (simp only [List.length_append, List.length_cons, List.length_nil, List.length_map, List.length_take, List.length_drop, List.length_replicate, List.length_set]; omega)) | (with_reducible refine fact ?_ ?_; first | trivial | exact ⟨rfl, rfl⟩ | kernel_rfl) | with_reducible refine choT (by assumption) ?_ | with_reducible refine choF (by assumption) ?_ | with_reducible refine choF' (by assumption) ?_ | (with_reducible refine altT ?_ ?_; first | omega | (simp only [List.length_append, List.length_cons, List.length_nil, List.length_map, List.length_take, List.length_drop, List.length_replicate, List.length_set]; omega)) | with_reducible refine altF ?_ | with_reducible refine all fun _ => ?_ | with_reducible refine both ?_ ?_ | (with_reducible refine choT ?_ ?_; omega) | (with_reducible refine choF ?_ ?_; omega) | with_reducible refine cho (fun _ => ?_) (fun _ => ?_))
  rename_i v'
  refine ⟨_, _, _, rfl, subS (τ := [.row v' 29 4 ((l ++ [e]).map En.av) 0]) _, v', ?_, rfl⟩
  rw [List.length_append]; rfl
theorem rowEn : rowOf Go.Proofs.Try.prog 39 = some (29, [.string ⟨#[]⟩, .string ⟨#[]⟩, .bool false, .int .i64 0], 4, 48) := by kernel_rfl
theorem szEn : szOf Go.Proofs.Try.prog 39 = some (29, 4) := by kernel_rfl
theorem lay_grow {α : Type} (l ys A es : List α) (e z : α) (i j m n q : Nat) (hi : i ≤ l.length) (hm : i + m = l.length + 1) (hn : n = 1) (hy : ys = l.drop i) (hq : q = ys.length) (hA : A = l.take i ++ List.replicate m z) (hes : es = [e]) (hj : j = i + 1) :
    (A.take i ++ es.take n ++ A.drop (i + n)).take j ++ ys.take q ++ (A.take i ++ es.take n ++ A.drop (i + n)).drop (j + q) = l.take i ++ e :: l.drop i := by
  subst hn; subst hA; subst hes; subst hj
  have h1 : (l.take i).length = i := by rw [List.length_take]; omega
  have e1 : (l.take i ++ List.replicate m z).take i = l.take i := List.take_left' h1
  have e2 : (l.take i ++ List.replicate m z).drop (i + 1) = List.replicate (m - 1) z := by
    rw [List.drop_append, h1, List.drop_of_length_le (by omega)]
    simp
  rw [e1, e2]
  have h2 : (l.take i ++ [e].take 1).length = i + 1 := by rw [List.length_append, h1]; rfl
  have e3 : (l.take i ++ [e].take 1 ++ List.replicate (m - 1) z).take (i + 1) = l.take i ++ [e] := List.take_left' h2
  have hyl : ys.length = l.length - i := by rw [hy, List.length_drop]
  have e4 : (l.take i ++ [e].take 1 ++ List.replicate (m - 1) z).drop (i + 1 + q) = [] := List.drop_of_length_le (by rw [List.length_append, h2, List.length_replicate]; omega)
  rw [e3, e4, hq, List.take_length, hy, List.append_nil, List.append_assoc]
  rfl
theorem Insert_grow (v y : Value) (l : List En) (e : En) (i : Nat) (hi : i < l.length) (hc : capV v < l.length + 1) (hn : y.ownBlock ≠ v.ownBlock) (hl : l.length ≤ 1000000) : ACalls Go.Proofs.Try.prog 31 [.own v l.length, I .i64 (i : Nat), .own y ([e] : List En).length] [.row y 29 4 ([e].map En.av) 0, .row v 29 4 (l.map En.av) 0]
    fun x σ' => ∃ v', x = .ret (.own v' (l.length + 1)) ∧ σ' = [.row v' 29 4 ((l.take i ++ e :: l.drop i).map En.av) 0] := by
  refine ACalls.fin (slices_Insert.go ?_)
  unfold slices_Insert.sh
  have h0 : ¬ ([e] : List En).length = 0 := by simp
  have h1 : ¬ i = l.length := by omega
  repeat' (first | with_reducible apply Stp.go | with_reducible refine imp fun _ => ?_ | (with_reducible refine hyp ?_ ?_; first | assumption | exact leftT_mem (by assumption)) | (with_reducible refine need ?_ ?_; first | trivial | omega | exact ⟨by assumption, by omega⟩ | (simp only [List.length_append, List.length_cons, List.length_nil, List.length_map, List.length_take, List.length_drop, List.length_replicate, List.length_set]; omega)) | (with_reducible refine fact ?_ ?_; first | trivial | exact ⟨rfl, rfl⟩ | kernel_rfl) | with_reducible refine choT (by assumption) ?_ | with_reducible refine choF (by assumption) ?_ | with_reducible refine choF' (by assumption) ?_ | (with_reducible refine altT ?_ ?_; first | omega | (simp only [List.length_append, List.length_cons, List.length_nil, List.length_map, List.length_take, List.length_drop, List.length_replicate, List.length_set]; omega)) | with_reducible refine altF ?_ | with_reducible refine all fun _ => ?_ | with_reducible refine both ?_ ?_ | (with_reducible refine choT ?_ ?_; omega) | (with_reducible refine choF ?_ ?_; omega) | with_reducible refine cho (fun _ => ?_) (fun _ => ?_))
  refine rawB_appendZ (l := l.map En.av) (fl := 0) rowEn (by kernel_rfl) (by simp) (by simpa using hi) (by simp; omega) (by simp; omega) (by decide) (by simp; omega) (by simp [maxLen]; omega) fun v2 hb2 hd2 => ?_
  have n1 : y ≠ v2 := fun e => hd2 _ List.mem_cons_self (by rw [e]; rfl)
  have n2 : v ≠ v2 := fun e => hd2 _ (List.mem_cons_of_mem _ List.mem_cons_self) (by rw [e]; rfl)
  have hm : i + (l.length + [e].length - i) = l.length + 1 := by simp; omega
  have eL : (l.map En.av).take i ++ List.replicate (l.length + [e].length - i) (mkE (List.map AV.val [.string ⟨#[]⟩, .string ⟨#[]⟩, .bool false, .int .i64 0])) = (l.take i ++ List.replicate (l.length + [e].length - i) En.zero).map En.av := by
    rw [List.map_append, List.map_take, List.map_replicate]; rfl
  rw [eL, hm]
  repeat' (first | with_reducible apply Stp.go | with_reducible refine imp fun _ => ?_ | (with_reducible refine hyp ?_ ?_; first | assumption | exact leftT_mem (by assumption)) | (with_reducible refine need ?_ ?_; first | trivial | omega | exact ⟨by assumption, by omega⟩ | (simp only [List.length_append, List.length_cons, List.length_nil, List.length_map, List.length_take, List.length_drop, List.length_replicate, List.length_set]; omega)) | (with_reducible refine fact ?_ ?_; first | trivial | exact ⟨rfl, rfl⟩ | kernel_rfl) | with_reducible refine choT (by assumption) ?_ | with_reducible refine choF (by assumption) ?_ | with_reducible refine choF' (by assumption) ?_ | (with_reducible refine altT ?_ ?_; first | omega | (simp only [List.length_append, List.length_cons, List.length_nil, List.length_map, List.length_take, List.length_drop, List.length_replicate, List.length_set]; omega)) | with_reducible refine altF ?_ | with_reducible refine all fun _ => ?_ | with_reducible refine both ?_ ?_ | (with_reducible refine choT ?_ ?_; omega) | (with_reducible refine choF ?_ ?_; omega) | with_reducible refine cho (fun _ => ?_) (fun _ => ?_))
  refine cpSub (σ1 := []) (ys := [e].map En.av) szEn ⟨_, _, _, List.mem_cons_of_mem _ List.mem_cons_self, rfl⟩ ?_ (by simp; omega) ?_
  · intro e' he E' s' l' f' h
    subst h
    simp only [List.nil_append, List.mem_cons, Ent.row.injEq, List.not_mem_nil, or_false] at he
    rcases he with he | he
    · exact n1 he.1.symm
    · exact n2 he.1.symm
  repeat' (first | with_reducible apply Stp.go | with_reducible refine imp fun _ => ?_ | (with_reducible refine hyp ?_ ?_; first | assumption | exact leftT_mem (by assumption)) | (with_reducible refine need ?_ ?_; first | trivial | omega | exact ⟨by assumption, by omega⟩ | (simp only [List.length_append, List.length_cons, List.length_nil, List.length_map, List.length_take, List.length_drop, List.length_replicate, List.length_set]; omega)) | (with_reducible refine fact ?_ ?_; first | trivial | exact ⟨rfl, rfl⟩ | kernel_rfl) | with_reducible refine choT (by assumption) ?_ | with_reducible refine choF (by assumption) ?_ | with_reducible refine choF' (by assumption) ?_ | (with_reducible refine altT ?_ ?_; first | omega | (simp only [List.length_append, List.length_cons, List.length_nil, List.length_map, List.length_take, List.length_drop, List.length_replicate, List.length_set]; omega)) | with_reducible refine altF ?_ | with_reducible refine all fun _ => ?_ | with_reducible refine both ?_ ?_ | (with_reducible refine choT ?_ ?_; omega) | (with_reducible refine choF ?_ ?_; omega) | with_reducible refine cho (fun _ => ?_) (fun _ => ?_))
  refine cpSub (σ1 := []) (ys := ((l.map En.av).drop i).take (l.length - i)) szEn ⟨rfl, _, _, _, List.mem_cons_of_mem _ (List.mem_cons_of_mem _ List.mem_cons_self), by simp; omega, rfl⟩ ?_ (by simp; omega) ?_
  · intro e' he E' s' l' f' h
    subst h
    simp only [List.nil_append, List.mem_cons, Ent.row.injEq, List.not_mem_nil, or_false] at he
    rcases he with he | he
    · exact n1 he.1.symm
    · exact n2 he.1.symm
  rw [lay_grow (l.map En.av) (((l.map En.av).drop i).take (l.length - i)) ((l.take i ++ List.replicate (l.length + [e].length - i) En.zero).map En.av) ([e].map En.av) e.av En.zero.av i (i + [e].length) (l.length + [e].length - i) (min ([e].map En.av).length (l.length + 1 - i)) (min (((l.map En.av).drop i).take (l.length - i)).length (l.length + 1 - (i + [e].length))) (by simp; omega) (by simp; omega) (by simp; omega) (by rw [List.take_of_length_le]; simp) (by simp) (by simp) rfl rfl]
  have e9 : (l.map En.av).take i ++ e.av :: (l.map En.av).drop i = (l.take i ++ e :: l.drop i).map En.av := by simp
  rw [e9, List.nil_append]
  exact ⟨_, _, _, rfl, subS (τ := [.row v2 29 4 ((l.take i ++ e :: l.drop i).map En.av) 0]) _, v2, rfl, rfl⟩
theorem Insert_in (v y : Value) (l : List En) (e : En) (i : Nat) (hi : i < l.length) (hc : l.length + 1 ≤ capV v) (hn : y.ownBlock ≠ v.ownBlock) (hl : l.length ≤ 1000000) : ACalls Go.Proofs.Try.prog 31 [.sub (reV v (l.length + 1)) 4 0 l.length, I .i64 (i : Nat), .own y ([e] : List En).length] [.row y 29 4 ([e].map En.av) 0, .row v 29 4 (l.map En.av) 0]
    fun x σ' => ∃ v', x = .ret (.own v' (l.length + 1)) ∧ σ' = [.row v' 29 4 ((l.take i ++ e :: l.drop i).map En.av) 0] := by
  have hcv : capV (reV v (l.length + 1)) = capV v := by cases v <;> rfl
  refine ACalls.fin (slices_Insert.go ?_)
  unfold slices_Insert.sh
  have h0 : ¬ ([e] : List En).length = 0 := by simp
  have h1 : ¬ i = l.length := by omega
  have h2 : ¬ capV (reV v (l.length + 1)) - 0 < l.length + [e].length := by simp; omega
  repeat' (first | with_reducible apply Stp.go | with_reducible refine imp fun _ => ?_ | (with_reducible refine hyp ?_ ?_; first | assumption | exact leftT_mem (by assumption)) | (with_reducible refine need ?_ ?_; first | trivial | omega | exact ⟨by assumption, by omega⟩ | (simp only [List.length_append, List.length_cons, List.length_nil, List.length_map, List.length_take, List.length_drop, List.length_replicate, List.length_set]; omega)) | (with_reducible refine fact ?_ ?_; first | trivial | exact ⟨rfl, rfl⟩ | kernel_rfl) | with_reducible refine choT (by assumption) ?_ | with_reducible refine choF (by assumption) ?_ | with_reducible refine choF' (by assumption) ?_ | (with_reducible refine altT ?_ ?_; first | omega | (simp only [List.length_append, List.length_cons, List.length_nil, List.length_map, List.length_take, List.length_drop, List.length_replicate, List.length_set]; omega)) | with_reducible refine altF ?_ | with_reducible refine all fun _ => ?_ | with_reducible refine both ?_ ?_ | (with_reducible refine choT ?_ ?_; omega) | (with_reducible refine choF ?_ ?_; omega) | with_reducible refine cho (fun _ => ?_) (fun _ => ?_))
  refine .inr (rawC_overlaps Go.Proofs.Try.func47 (by kernel_rfl) (by kernel_rfl) (by kernel_rfl) (tS := 39) (tR := 4) (by kernel_rfl) szEn ?_ ?_ (by decide) ?_ ?_)
  · simp
  · simp; omega
  · simp; omega
  have hff : ¬ (false = true) := by decide
  have hml : (l.map En.av).length = l.length := by simp
  repeat' (first | with_reducible apply Stp.go | with_reducible refine imp fun _ => ?_ | (with_reducible refine hyp ?_ ?_; first | assumption | exact leftT_mem (by assumption)) | (with_reducible refine need ?_ ?_; first | trivial | omega | exact ⟨by assumption, by omega⟩ | (simp only [List.length_append, List.length_cons, List.length_nil, List.length_map, List.length_take, List.length_drop, List.length_replicate, List.length_set]; omega)) | (with_reducible refine fact ?_ ?_; first | trivial | exact ⟨rfl, rfl⟩ | kernel_rfl) | with_reducible refine choT (by assumption) ?_ | with_reducible refine choF (by assumption) ?_ | with_reducible refine choF' (by assumption) ?_ | (with_reducible refine altT ?_ ?_; first | omega | (simp only [List.length_append, List.length_cons, List.length_nil, List.length_map, List.length_take, List.length_drop, List.length_replicate, List.length_set]; omega)) | with_reducible refine altF ?_ | with_reducible refine all fun _ => ?_ | with_reducible refine both ?_ ?_ | (with_reducible refine choT ?_ ?_; omega) | (with_reducible refine choF ?_ ?_; omega) | with_reducible refine cho (fun _ => ?_) (fun _ => ?_))
  have q1 : AV.sub (reV v (l.length + 1)) 4 (0 + (i + [e].length)) (l.length + [e].length - (i + [e].length)) = .sub (reV v ((l.map En.av).length + 1)) 4 (i + 1) (l.length - i) := by
    rw [hml, show 0 + (i + [e].length) = i + 1 by simp, show l.length + [e].length - (i + [e].length) = l.length - i by simp]
  have q2 : AV.sub (reV v (l.length + 1)) 4 (0 + i) (l.length + [e].length - i) = .sub (reV v ((l.map En.av).length + 1)) 4 i (l.length - i + 1) := by
    rw [hml, show 0 + i = i by omega, show l.length + [e].length - i = l.length - i + 1 by simp; omega]
  rw [q1, q2]
  refine ⟨_, Or.inr (rawB_shift (σ1 := [.row y 29 4 ([e].map En.av) 0]) (σ2 := []) szEn (by rw [hml]; omega) (by omega) (by rw [hml]; omega) (by rw [hml]; simp only [maxLen]; omega) ?_), fun _ _ h => h⟩
  rw [hml]
  repeat' (first | with_reducible apply Stp.go | with_reducible refine imp fun _ => ?_ | (with_reducible refine hyp ?_ ?_; first | assumption | exact leftT_mem (by assumption)) | (with_reducible refine need ?_ ?_; first | trivial | omega | exact ⟨by assumption, by omega⟩ | (simp only [List.length_append, List.length_cons, List.length_nil, List.length_map, List.length_take, List.length_drop, List.length_replicate, List.length_set]; omega)) | (with_reducible refine fact ?_ ?_; first | trivial | exact ⟨rfl, rfl⟩ | kernel_rfl) | with_reducible refine choT (by assumption) ?_ | with_reducible refine choF (by assumption) ?_ | with_reducible refine choF' (by assumption) ?_ | (with_reducible refine altT ?_ ?_; first | omega | (simp only [List.length_append, List.length_cons, List.length_nil, List.length_map, List.length_take, List.length_drop, List.length_replicate, List.length_set]; omega)) | with_reducible refine altF ?_ | with_reducible refine all fun _ => ?_ | with_reducible refine both ?_ ?_ | (with_reducible refine choT ?_ ?_; omega) | (with_reducible refine choF ?_ ?_; omega) | with_reducible refine cho (fun _ => ?_) (fun _ => ?_))
  have hlx : ((l.map En.av).take (i + 1) ++ (l.map En.av).drop i).length = l.length + 1 := by simp; omega
  refine cpSub (σ1 := [.row y 29 4 ([e].map En.av) 0]) (σ2 := []) (ys := [e].map En.av) szEn ⟨_, _, _, List.mem_cons_self, rfl⟩ ?_ (by rw [hlx]; simp; omega) ?_
  · intro e' he E' s' l' f' h
    subst h
    simp only [List.append_nil, List.mem_cons, Ent.row.injEq, List.not_mem_nil, or_false] at he
    exact hn (by rw [← he.1, reV_block])
  have e9 : ((l.map En.av).take (i + 1) ++ (l.map En.av).drop i).take (0 + i) ++ ([e].map En.av).take (min ([e].map En.av).length (l.length + [e].length - i)) ++ ((l.map En.av).take (i + 1) ++ (l.map En.av).drop i).drop (0 + i + min ([e].map En.av).length (l.length + [e].length - i)) = (l.take i ++ e :: l.drop i).map En.av := by
    have h4 : ((l.map En.av).take (i + 1)).length = i + 1 := by rw [List.length_take]; omega
    have h3 : min ([e].map En.av).length (l.length + [e].length - i) = 1 := by simp; omega
    rw [h3, show 0 + i = i by omega, List.take_append_of_le_length (by omega), List.take_take, show min i (i + 1) = i by omega, List.drop_append_of_le_length (by omega), List.drop_of_length_le (by omega)]
    simp
  rw [e9, List.singleton_append]
  exact ⟨_, _, _, rfl, (Sub.whole (n := l.length + [e].length) (List.mem_cons_of_mem _ List.mem_cons_self) (by simp) (by simp; omega) []).trans (subS (τ := [.row (reV v (l.length + 1)) 29 4 ((l.take i ++ e :: l.drop i).map En.av) 0]) _), _, rfl, rfl⟩
/-- A contract for which something of the store may be known. -/
theorem ACalls.assume {P : Program} {f : FuncId} {args : List AV} {σ : Store} {Q : AEnd → Store → Prop} (hb : HasBody P f) (p : Prop) (h : ∀ R w vs, VRs R vs args → St R w σ → p) (hp : p → ACalls P f args σ Q) : ACalls P f args σ Q :=
  ⟨hb, fun R w vs hv hs => (hp (h R w vs hv hs)).2 R w vs hv hs⟩
theorem ACalls.preA {P : Program} {f : FuncId} {args args' : List AV} {σ σ' : Store} {Q : AEnd → Store → Prop} (h : ACalls P f args' σ' Q) (hs : Sub σ args σ' args') : ACalls P f args σ Q :=
  ⟨h.1, fun R w vs hv hst => by
    obtain ⟨R1, h1, h2, h3⟩ := hs R w vs hv hst
    refine (h.2 R1 w vs h1 h2).mono ?_
    rintro en w' ⟨x, R', τ, e1, e2, e3, e4⟩
    exact ⟨x, R', τ, e1, e2, e3, h3.trans e4⟩⟩
theorem Insert_ok (v y : Value) (l : List En) (e : En) (i : Nat) (hi : i ≤ l.length) (hl : l.length ≤ 1000000) : ACalls Go.Proofs.Try.prog 31 [.own v l.length, I .i64 (i : Nat), .own y ([e] : List En).length] [.row y 29 4 ([e].map En.av) 0, .row v 29 4 (l.map En.av) 0]
    fun x σ' => ∃ v', x = .ret (.own v' (l.length + 1)) ∧ σ' = [.row v' 29 4 ((l.take i ++ e :: l.drop i).map En.av) 0] := by
  by_cases h : i = l.length
  · subst h
    have := Insert_end v y l e hl
    rwa [show l ++ [e] = l.take l.length ++ e :: l.drop l.length by simp] at this
  · have hlt : i < l.length := by omega
    refine ACalls.assume (Insert_end v y l e hl).1 (y.ownBlock ≠ v.ownBlock) (fun R w vs hv hs => hs.two (by simp; omega)) fun hn => ?_
    by_cases hc : capV v < l.length + 1
    · exact Insert_grow v y l e i hlt hc hn hl
    · exact (Insert_in v y l e i hlt (by omega) hn hl).preA (Sub.part (List.mem_cons_of_mem _ List.mem_cons_self) (by simp; omega) _ _)
end Go.Ab

/- A mem: what it holds; a new one; a place; what is looked up in it. -/
set_option linter.unusedVariables false
set_option linter.unusedSimpArgs false
namespace Go.Ab
abbrev memCs (u : AV) (s : Int) (c : List UInt8) : List AV := u :: I .i64 s :: c.map byt
abbrev MT : TypeId := 58
abbrev EnT_ : TypeId := 29
/-- A mem's memory. -/
abbrev memS (b : Nat) (v : Value) (l : List En) (s : Int) (c : List UInt8) : Store := [.var b MT (memCs (.own v l.length) s c), .row v EnT_ 4 (l.map En.av) 0]
theorem one_len {u : AV} (h : u.one = true) : u.cells.length = 1 := by
  cases u <;> first | rfl | cases h
section steps
variable {P : Program} {b : Nat} {t : TypeId} {u x : AV} {c c' : List UInt8} {σ rest : Store} {put : Ent → Store} {K : AV → Prop} {k : AV → Store → Prop}
instance (priority := 75) ldChain [hc : Len32 c] [hv : VarAt b σ t (u :: x :: c.map byt) put rest] : Stp (Do (loadA true 32 (ptrAt b 2) σ) K) (K (.agg (c.map byt))) := ⟨fun hK => by
  obtain ⟨σ1, σ2, e, _⟩ := hv.at_
  have hl := hc.len
  refine ⟨_, ⟨by decide, fun h => by (cases h), rfl, t, u :: x :: c.map byt, by rw [e]; simp, by simp [hl], ?_⟩, hK⟩
  show _ = mkV true ((c.map byt).take 32)
  rw [List.take_of_length_le (by simp [hl])]
  rfl⟩
instance (priority := 75) stChain [hc : Len32 c] [hc' : Len32 c'] [hv : VarAt b σ t (u :: x :: c.map byt) put rest] : Stp (storeA 32 (ptrAt b 2) (.agg (c'.map byt)) σ k) (k .undef (put (.var b t (u :: x :: c'.map byt)))) := ⟨fun hK => by
  obtain ⟨σ1, σ2, e, e2, _⟩ := hv.at_
  have hl := hc.len
  have hl' := hc'.len
  refine ⟨by simp [AV.cells, hl'], fun y hy => ?_, rfl, σ1, σ2, t, u :: x :: c.map byt, e, by simp [hl], ?_⟩
  · obtain ⟨y, _, rfl⟩ := List.mem_map.1 (show y ∈ c'.map byt from hy)
    rfl
  · rw [e2] at hK
    have : splice (u :: x :: c.map byt) 2 (AV.cells (.agg (c'.map byt))) = u :: x :: c'.map byt := by
      show splice (u :: x :: c.map byt) 2 (c'.map byt) = _
      simp [splice, hl, hl']
    rw [this]
    exact hK⟩
instance (priority := 75) srcChain [hc : Len32 c] [hv : VarAt b σ t (u :: x :: c.map byt) put rest] [hu : One u] [hx : One x] : SrcI 1 σ (.val (.slice (some ⟨b, 2, none⟩) 32 32)) UInt8 byt c := ⟨⟨⟨rfl, rfl, t, u :: x :: c.map byt, by
    obtain ⟨σ1, σ2, e, _⟩ := hv.at_
    rw [e]; simp, by simp [hc.len], fun y hy => by
      simp only [List.mem_cons, List.mem_map] at hy
      rcases hy with rfl | rfl | ⟨z, _, rfl⟩
      · exact one_len hu.one
      · exact one_len hx.one
      · rfl, by rw [show (u :: x :: c.map byt).drop 2 = c.map byt from rfl, List.take_of_length_le (by simp [hc.len])]⟩, fun _ y hy => by obtain ⟨z, _, rfl⟩ := List.mem_map.1 hy; rfl⟩⟩
theorem litMem {zs : List AV} {offs : List (Nat × Nat)} [hc : Len32 c] (h1 : zs.take 2 = [u, x]) (h2 : zs.length = 34) (h3 : offs[2]? = some (2, 32)) (hK : K (.agg (u :: x :: c.map byt))) : Do (aLit zs offs [(2, .agg (c.map byt))]) K := by
  have hl := hc.len
  refine ⟨_, ⟨?_, u :: x :: c.map byt, ?_, rfl⟩, hK⟩
  · intro p hp y hy
    rw [List.mem_singleton.1 hp] at hy
    obtain ⟨z, _, rfl⟩ := List.mem_map.1 (show y ∈ c.map byt from hy)
    rfl
  · unfold fillA
    rw [h3]
    have e1 : (AV.cells (.agg (c.map byt))).length = 32 := by simp [AV.cells, hl]
    simp only [e1, h2]
    rw [if_pos ⟨trivial, by decide⟩]
    unfold fillA
    congr 1
    show splice zs 2 (c.map byt) = _
    unfold splice
    rw [h1, List.drop_of_length_le (by rw [h2, List.length_map, hl]; decide)]
    simp
/-- nil in a variable's first cell, told as a row without elements. -/
theorem Sub.nilCell {cs : List AV} (E : TypeId) {sz : Nat} (hz : 0 < sz) (us : List AV) : Sub [.var b t (.val (.slice none 0 0) :: cs)] us [.var b t (.own (.slice none 0 0) 0 :: cs), .row (.slice none 0 0) E sz [] 0] us := by
  intro R w vs hv hs
  have hst : St R w [.var b t (.own (.slice none 0 0) 0 :: cs)] := by
    refine ⟨hs.ro, fun e he => ?_, List.pairwise_singleton _ _⟩
    rw [List.mem_singleton.1 he]
    obtain ⟨⟨ws, h1, h2, h3⟩, h4⟩ := hs.ents _ List.mem_cons_self
    refine ⟨⟨ws, h1, ⟨by rw [h2.1]; rfl, fun j u v hu hv => ?_⟩, h3⟩, h4⟩
    cases j with
    | zero =>
      have := h2.2 0 _ v rfl hv
      rw [this.val_inv]
      simp only [List.getElem?_cons_zero, Option.some.injEq] at hu
      subst hu
      exact .own (.inl ⟨rfl, rfl⟩)
    | succ j => exact h2.2 (j + 1) u v hu hv
  obtain ⟨g1, g2⟩ := st_nilRow hst E hz
  have hp : ([Ent.row (.slice none 0 0) E sz [] 0, .var b t (.own (.slice none 0 0) 0 :: cs)] : Store).Perm [.var b t (.own (.slice none 0 0) 0 :: cs), .row (.slice none 0 0) E sz [] 0] := List.Perm.swap _ _ _
  refine ⟨R, hv, g1.perm hp, ⟨fun _ _ h => h, rfl, rfl, rfl, Nat.le_refl _, fun _ _ _ => rfl, fun k hk => .inl ?_, fun _ _ h => .inl h⟩⟩
  simpa [blks, Ent.blk, Value.ownBlock] using hk
end steps
end Go.Ab

/- A mem: a new one; places; what is looked up; what is cut out. -/
set_option linter.unusedVariables false
set_option linter.unusedSimpArgs false
namespace Go.Ab
section nils
variable {P : Program} {t : TypeId} {v : Value} {sz a n : Nat} {K : AV → Prop}
theorem eq_nil_run {d : TypeId} (h : P.underlying t = some (.slice d)) (k : Nat) (ao : Option Addr) (m c : Nat) (w : World) : (Op.equalIn (k + 1) t (.slice ao m c) (.slice none 0 0)).run P w = .ok ao.isNone w := by
  cases ao <;> simp [Op.equalIn, run_underlying h]
theorem nilSubT [h : SlT P t] (hv : v = .slice none 0 0) (hK : K (.val (.bool true))) : Do (aBin P .eql t (.sub v sz a n) (.val (.slice none 0 0))) K := ⟨_, by
  show aBin P .eql t (.sub v sz a n) (.val (.slice none 0 0)) (.val (.bool true))
  obtain ⟨d, hd⟩ := isSl_run h.h
  unfold aBin
  simp only [plainV]
  refine ⟨_, rfl, ?_⟩
  rintro c (⟨_, rfl⟩ | ⟨h1, _⟩) xo yo w'
  · have e1 := eq_nil_run hd 9999 none 0 0 w'
    cases xo <;> cases yo <;> simp [eqGuard, binOp, Op.equal, Op.maxDepth, e1, Op.eqGuardIn, run_underlying hd]
  · exact absurd hv h1, hK⟩
theorem nilSubF [h : SlT P t] (hv : v ≠ .slice none 0 0) (hK : K (.val (.bool false))) : Do (aBin P .eql t (.sub v sz a n) (.val (.slice none 0 0))) K := ⟨_, by
  show aBin P .eql t (.sub v sz a n) (.val (.slice none 0 0)) (.val (.bool false))
  obtain ⟨d, hd⟩ := isSl_run h.h
  unfold aBin
  simp only [plainV]
  refine ⟨_, rfl, ?_⟩
  rintro c (⟨h1, _⟩ | ⟨_, ao, m, cp, rfl⟩) xo yo w'
  · exact absurd h1 hv
  · have e1 := eq_nil_run hd 9999 (some ao) m cp w'
    cases xo <;> cases yo <;> simp [eqGuard, binOp, Op.equal, Op.maxDepth, e1, Op.eqGuardIn, run_underlying hd], hK⟩
end nils
def slices_Clone.mark : Mark := ⟨fun t => false, fun t => Nat.beq t 5, fun t => false, fun t => false, fun t => false⟩
def slices_Clone.ann : Ann := ⟨fun n => [], fun n => none, fun n => none⟩
/-- 'slices.Clone[[]marlstone/api.Entry,marlstone/api.Entry]' -/
def slices_Clone.sh (a0 : AV) (σ : Store) (Q : AEnd → Store → Prop) : Prop :=
  Do (aBin Go.Proofs.Try.prog .eql 39 a0 (.val (.slice none 0 0))) fun t4 =>
  aCond t4
    (Q (.ret (.val (.slice none 0 0))) σ)
    (aRowL 29 (mkE [.val (.string ⟨#[]⟩), .val (.string ⟨#[]⟩), .val (.bool false), .val (.int .i64 0)]) 4 0 [] σ fun t5 σ =>
  aAppend 29 4 48 t5 a0 σ (subK fun t7 σ_1 =>
  Q (.ret t7) σ_1))
theorem slices_Clone.eq (a0 : AV) (σ : Store) (Q : AEnd → Store → Prop) : vc (semOf Go.Proofs.Try.prog slices_Clone.mark) Go.Proofs.Try.f38.ntmps slices_Clone.ann (bodyOf Go.Proofs.Try.f38) (endK [.tmp 2] Q) (argFr [a0]) σ = slices_Clone.sh a0 σ Q := by kernel_rfl
theorem slices_Clone.go {a0 : AV} {σ : Store} {Q : AEnd → Store → Prop} (h : slices_Clone.sh a0 σ Q) : ACalls Go.Proofs.Try.prog 38 [a0] σ Q :=
  acalls_of_eq [.tmp 2] Go.Proofs.Try.func38 (by kernel_rfl) (by kernel_rfl) (by kernel_rfl) (by kernel_rfl) (slices_Clone.eq a0 σ Q) h
theorem Clone_ok' (v : Value) (l : List En) (a n : Nat) (hv0 : v = .slice none 0 0 → l.length = 0) (hn : a + n ≤ l.length) (hl : l.length ≤ 1000000) : ACalls Go.Proofs.Try.prog 38 [.sub v 4 a n] [.row v EnT_ 4 (l.map En.av) 0]
    fun x σ' => ∃ v', x = .ret (.own v' n) ∧ σ' = [.row v' EnT_ 4 (((l.drop a).take n).map En.av) 0, .row v EnT_ 4 (l.map En.av) 0] := by
  refine ACalls.fin (slices_Clone.go ?_)
  unfold slices_Clone.sh
  by_cases hv : v = .slice none 0 0
  · refine nilSubT hv ?_
    have ht : (true : Bool) = true := rfl
    repeat' (first | with_reducible apply Stp.go | with_reducible refine imp fun _ => ?_ | (with_reducible refine hyp ?_ ?_; first | assumption | exact leftT_mem (by assumption)) | (with_reducible refine need ?_ ?_; first | trivial | omega | exact ⟨by assumption, by omega⟩ | (simp only [List.length_append, List.length_cons, List.length_nil, List.length_map, List.length_take, List.length_drop, List.length_replicate, List.length_set]; omega)) | (with_reducible refine fact ?_ ?_; first | trivial | exact ⟨rfl, rfl⟩ | kernel_rfl) | with_reducible refine choT (by assumption) ?_ | with_reducible refine choF (by assumption) ?_ | with_reducible refine choF' (by assumption) ?_ | (with_reducible refine altT ?_ ?_; first | omega | (simp only [List.length_append, List.length_cons, List.length_nil, List.length_map, List.length_take, List.length_drop, List.length_replicate, List.length_set]; omega)) | with_reducible refine altF ?_ | with_reducible refine all fun _ => ?_ | with_reducible refine both ?_ ?_ | (with_reducible refine choT ?_ ?_; omega) | (with_reducible refine choF ?_ ?_; omega) | with_reducible refine cho (fun _ => ?_) (fun _ => ?_))
    have h0 := hv0 hv
    have e1 : n = 0 := by omega
    subst e1
    exact ⟨_, _, _, rfl, Sub.nil_own EnT_ (sz := 4) (by decide) _ [] [], _, rfl, rfl⟩
  · refine nilSubF hv ?_
    have ht : ¬ (false : Bool) = true := by decide
    repeat' (first | with_reducible apply Stp.go | with_reducible refine imp fun _ => ?_ | (with_reducible refine hyp ?_ ?_; first | assumption | exact leftT_mem (by assumption)) | (with_reducible refine need ?_ ?_; first | trivial | omega | exact ⟨by assumption, by omega⟩ | (simp only [List.length_append, List.length_cons, List.length_nil, List.length_map, List.length_take, List.length_drop, List.length_replicate, List.length_set]; omega)) | (with_reducible refine fact ?_ ?_; first | trivial | exact ⟨rfl, rfl⟩ | kernel_rfl) | with_reducible refine choT (by assumption) ?_ | with_reducible refine choF (by assumption) ?_ | with_reducible refine choF' (by assumption) ?_ | (with_reducible refine altT ?_ ?_; first | omega | (simp only [List.length_append, List.length_cons, List.length_nil, List.length_map, List.length_take, List.length_drop, List.length_replicate, List.length_set]; omega)) | with_reducible refine altF ?_ | with_reducible refine all fun _ => ?_ | with_reducible refine both ?_ ?_ | (with_reducible refine choT ?_ ?_; omega) | (with_reducible refine choF ?_ ?_; omega) | with_reducible refine cho (fun _ => ?_) (fun _ => ?_))
    have e1 : ([] ++ (l.drop a).take n).length = n := by simp; omega
    rw [e1]
    exact ⟨_, _, _, rfl, Sub.refl _ _, _, rfl, rfl⟩
theorem Clone_ok (v : Value) (l : List En) (a n : Nat) (hn : a + n ≤ l.length) (hl : l.length ≤ 1000000) : ACalls Go.Proofs.Try.prog 38 [.sub v 4 a n] [.row v EnT_ 4 (l.map En.av) 0]
    fun x σ' => ∃ v', x = .ret (.own v' n) ∧ σ' = [.row v' EnT_ 4 (((l.drop a).take n).map En.av) 0, .row v EnT_ 4 (l.map En.av) 0] := by
  refine ACalls.assume (Clone_ok' (.slice (some ⟨0, 0, none⟩) 0 0) [] 0 0 (by intro h; cases h) (by simp) (by simp)).1 (v = .slice none 0 0 → l.length = 0) (fun R w vs hv hs => ?_) (fun h => Clone_ok' v l a n h hn hl)
  rintro rfl
  obtain ⟨ws, hr, hone, hown, hz0, hsz, hcc⟩ := row_cells hs (v := .slice none 0 0) (E := EnT_) (sz := 4) (l := l.map En.av) (fl := 0) List.mem_cons_self
  rcases hown.2 with ⟨_, h00⟩ | ⟨g, cap, cur, h, _⟩
  · simpa using h00
  · cases h
/-- A call that leaves the store as it was, with more beside it. -/
theorem ACalls.same {P : Program} {f : FuncId} {args : List AV} {σ τ rest : Store} {u : AV} (h : ACalls P f args τ fun x σ' => x = .ret u ∧ σ' = τ) (hp : σ.Perm (τ ++ rest)) : ACalls P f args σ fun x σ' => x = .ret u ∧ σ' = σ :=
  ((h.frame rest).perm hp.symm).sub fun x σ' ⟨σ1, e1, _, e2, e3⟩ => by
    subst e1; subst e2; subst e3
    exact ⟨u, u, σ, rfl, Sub.perm hp.symm _, rfl, rfl⟩
/-- .. and one that turns a part of it. -/
theorem ACalls.part {P : Program} {f : FuncId} {args : List AV} {σ τ rest : Store} {Q : AEnd → Store → Prop} (h : ACalls P f args τ Q) (hp : σ.Perm (τ ++ rest)) : ACalls P f args σ fun x σ' => ∃ σ1, σ' = σ1 ++ rest ∧ Q x σ1 :=
  ((h.frame rest).perm hp.symm).mono fun x σ' ⟨σ1, e1, _, e2⟩ => ⟨σ1, e1, e2⟩
/-- A mem stands somewhere in the store. -/
class MemAt (b : Nat) (σ : Store) (v : outParam Value) (l : outParam (List En)) (s : outParam Int) (c : outParam (List UInt8)) (rest : outParam Store) : Prop where
  perm : σ.Perm (memS b v l s c ++ rest)
instance {b : Nat} {σ rest rest2 : Store} {v : Value} {l : List En} {s : Int} {c : List UInt8} {put put2 : Ent → Store} [hv : VarAt b σ MT (memCs (.own v l.length) s c) put rest] [hr : RowAt v rest EnT_ 4 (l.map En.av) 0 put2 rest2] : MemAt b σ v l s c rest2 := ⟨by
  obtain ⟨σ1, σ2, rfl, _, rfl⟩ := hv.at_
  obtain ⟨ρ1, ρ2, e, _, rfl⟩ := hr.at_
  refine List.perm_middle.trans ?_
  rw [e]
  exact List.Perm.cons _ List.perm_middle⟩
def mem_New.mark : Mark := ⟨fun t => Nat.beq t 1, fun t => false, fun t => false, fun t => false, fun t => false⟩
def mem_New.ann : Ann := ⟨fun n => [], fun n => none, fun n => none⟩
/-- 'marlstone/mem.New' -/
def mem_New.sh (σ : Store) (Q : AEnd → Store → Prop) : Prop :=
  Do (aPureC Go.Proofs.Try.prog 29 [(.val (.slice none 0 0))]) fun t1 =>
  Do (aLit [.val (.slice none 0 0), .val (.int .i64 0), .val (.int .u8 0), .val (.int .u8 0), .val (.int .u8 0), .val (.int .u8 0), .val (.int .u8 0), .val (.int .u8 0), .val (.int .u8 0), .val (.int .u8 0), .val (.int .u8 0), .val (.int .u8 0), .val (.int .u8 0), .val (.int .u8 0), .val (.int .u8 0), .val (.int .u8 0), .val (.int .u8 0), .val (.int .u8 0), .val (.int .u8 0), .val (.int .u8 0), .val (.int .u8 0), .val (.int .u8 0), .val (.int .u8 0), .val (.int .u8 0), .val (.int .u8 0), .val (.int .u8 0), .val (.int .u8 0), .val (.int .u8 0), .val (.int .u8 0), .val (.int .u8 0), .val (.int .u8 0), .val (.int .u8 0), .val (.int .u8 0), .val (.int .u8 0)] [(0, 1), (1, 1), (2, 32)] [(2, t1)]) fun t2 =>
  aNewVar 58 (t2 : AV).cells σ fun t3 σ =>
  Q (.ret t3) σ
theorem mem_New.eq (σ : Store) (Q : AEnd → Store → Prop) : vc (semOf Go.Proofs.Try.prog mem_New.mark) Go.Proofs.Try.f10.ntmps mem_New.ann (bodyOf Go.Proofs.Try.f10) (endK [.tmp 0] Q) (argFr []) σ = mem_New.sh  σ Q := by kernel_rfl
theorem mem_New.go {σ : Store} {Q : AEnd → Store → Prop} (h : mem_New.sh  σ Q) : ACalls Go.Proofs.Try.prog 10 [] σ Q :=
  acalls_of_eq [.tmp 0] Go.Proofs.Try.func10 (by kernel_rfl) (by kernel_rfl) (by kernel_rfl) (by kernel_rfl) (mem_New.eq  σ Q) h
def mem_Mem_place.mark : Mark := ⟨fun t => false, fun t => false, fun t => false, fun t => false, fun t => Nat.beq t 11⟩
def mem_Mem_place.ann : Ann := ⟨fun n => [], fun n => none, fun n => none⟩
/-- '(*marlstone/mem.Mem).place' -/
def mem_Mem_place.sh (a0 a1 : AV) (σ : Store) (Q : AEnd → Store → Prop) : Prop :=
  Do (aNil a0) fun t7 =>
  Do (aFieldAddr 0 1 t7) fun t8 =>
  Do (loadA false 1 t8 σ) fun t9 =>
  Do (lookC Go.Proofs.Try.prog 44 [t9, a1, (.val (.func (.func 45) #[] #[]))] σ) fun t11 =>
  Do (aExt t11 0) fun t12 =>
  Do (aExt t11 1) fun t13 =>
  Q (.ret (.tuple [t12, t13])) σ
theorem mem_Mem_place.eq (a0 a1 : AV) (σ : Store) (Q : AEnd → Store → Prop) : vc (semOf Go.Proofs.Try.prog mem_Mem_place.mark) Go.Proofs.Try.f30.ntmps mem_Mem_place.ann (bodyOf Go.Proofs.Try.f30) (endK [.tmp 4, .tmp 5] Q) (argFr [a0, a1]) σ = mem_Mem_place.sh a0 a1 σ Q := by kernel_rfl
theorem mem_Mem_place.go {a0 a1 : AV} {σ : Store} {Q : AEnd → Store → Prop} (h : mem_Mem_place.sh a0 a1 σ Q) : ACalls Go.Proofs.Try.prog 30 [a0, a1] σ Q :=
  acalls_of_eq [.tmp 4, .tmp 5] Go.Proofs.Try.func30 (by kernel_rfl) (by kernel_rfl) (by kernel_rfl) (by kernel_rfl) (mem_Mem_place.eq a0 a1 σ Q) h
def mem_Mem_place_1.mark : Mark := ⟨fun t => Nat.beq t 8, fun t => false, fun t => Nat.beq t 2, fun t => Nat.beq t 6, fun t => false⟩
def mem_Mem_place_1.ann : Ann := ⟨fun n => [], fun n => none, fun n => none⟩
/-- '(*marlstone/mem.Mem).place$1' -/
def mem_Mem_place_1.sh (a0 a1 : AV) (σ : Store) (Q : AEnd → Store → Prop) : Prop :=
  Do (aFreeze ((a0 : AV)).cells) fun t2 =>
  Do (aFieldAddr 0 1 t2) fun t5 =>
  Do (loadF false 1 t5) fun t6 =>
  Do (aPureC Go.Proofs.Try.prog 46 [t6, a1]) fun t8 =>
  Q (.ret t8) σ
theorem mem_Mem_place_1.eq (a0 a1 : AV) (σ : Store) (Q : AEnd → Store → Prop) : vc (semOf Go.Proofs.Try.prog mem_Mem_place_1.mark) Go.Proofs.Try.f45.ntmps mem_Mem_place_1.ann (bodyOf Go.Proofs.Try.f45) (endK [.tmp 4] Q) (argFr [a0, a1]) σ = mem_Mem_place_1.sh a0 a1 σ Q := by kernel_rfl
theorem mem_Mem_place_1.go {a0 a1 : AV} {σ : Store} {Q : AEnd → Store → Prop} (h : mem_Mem_place_1.sh a0 a1 σ Q) : ACalls Go.Proofs.Try.prog 45 [a0, a1] σ Q :=
  acalls_of_eq [.tmp 4] Go.Proofs.Try.func45 (by kernel_rfl) (by kernel_rfl) (by kernel_rfl) (by kernel_rfl) (mem_Mem_place_1.eq a0 a1 σ Q) h
def mem_Mem_Get.mark : Mark := ⟨fun t => false, fun t => false, fun t => false, fun t => false, fun t => false⟩
def mem_Mem_Get.ann : Ann := ⟨fun n => [], fun n => none, fun n => none⟩
/-- '(*marlstone/mem.Mem).Get' -/
def mem_Mem_Get.sh (a0 a1 : AV) (σ : Store) (Q : AEnd → Store → Prop) : Prop :=
  aNewVar 29 [.val (.string ⟨#[]⟩), .val (.string ⟨#[]⟩), .val (.bool false), .val (.int .i64 0)] σ fun t4 σ =>
  aCall Go.Proofs.Try.prog 30 [a0, a1] σ (fun t11 σ_1 =>
  Do (aExt t11 0) fun t12 =>
  Do (aExt t11 1) fun t13 =>
  Do (aUn Go.Proofs.Try.prog .not t13) fun t15 =>
  aCond t15
    (Do (aLit [.val (.string ⟨#[]⟩), .val (.string ⟨#[]⟩), .val (.bool false), .val (.int .i64 0)] [(0, 1), (1, 1), (2, 1), (3, 1)] []) fun t16 =>
    storeA 4 t4 t16 σ_1 fun u σ_2 =>
    Do (loadA true 4 t4 σ_2) fun r4 => Q (.ret (.tuple [r4, (.val (.bool false))])) σ_2)
    (Do (aNil a0) fun t18 =>
  Do (aFieldAddr 0 1 t18) fun t19 =>
  Do (loadA false 1 t19 σ_1) fun t20 =>
  Do (aIndexAddr .slice 4 t20 t12) fun t22 =>
  Do (loadA true 4 t22 σ_1) fun t23 =>
  storeA 4 t4 t23 σ_1 fun u_1 σ_3 =>
  Do (loadA true 4 t4 σ_3) fun r4_1 => Q (.ret (.tuple [r4_1, (.val (.bool true))])) σ_3)) (fun e σ_4 => Q (.pan e) σ_4)
theorem mem_Mem_Get.eq (a0 a1 : AV) (σ : Store) (Q : AEnd → Store → Prop) : vc (semOf Go.Proofs.Try.prog mem_Mem_Get.mark) Go.Proofs.Try.f22.ntmps mem_Mem_Get.ann (bodyOf Go.Proofs.Try.f22) (endK [.cell 4 true 4, .tmp 5] Q) (argFr [a0, a1]) σ = mem_Mem_Get.sh a0 a1 σ Q := by kernel_rfl
theorem mem_Mem_Get.go {a0 a1 : AV} {σ : Store} {Q : AEnd → Store → Prop} (h : mem_Mem_Get.sh a0 a1 σ Q) : ACalls Go.Proofs.Try.prog 22 [a0, a1] σ Q :=
  acalls_of_eq [.cell 4 true 4, .tmp 5] Go.Proofs.Try.func22 (by kernel_rfl) (by kernel_rfl) (by kernel_rfl) (by kernel_rfl) (mem_Mem_Get.eq a0 a1 σ Q) h
def mem_Mem_Range.mark : Mark := ⟨fun t => false, fun t => false, fun t => false, fun t => false, fun t => false⟩
def mem_Mem_Range.ann : Ann := ⟨fun n => [], fun n => bif Nat.beq n 5 then some [0, 7, 9] else none, fun n => none⟩
/-- '(*marlstone/mem.Mem).Range' -/
def mem_Mem_Range.sh (a0 a1 a2 : AV) (σ : Store) (Q : AEnd → Store → Prop) : Prop :=
  aCall Go.Proofs.Try.prog 30 [a0, a1] σ (fun t14 σ =>
  Do (aExt t14 0) fun t15 =>
  Do (aExt t14 1) fun t16 =>
  aCall Go.Proofs.Try.prog 30 [a0, a2] σ (fun t20 σ_1 =>
  Do (aExt t20 0) fun t21 =>
  Do (aExt t20 1) fun t22 =>
  aJoin (fun j =>
    Do (aBin Go.Proofs.Try.prog .eql 9 a2 (.val (.string ⟨#[]⟩))) fun t24 =>
    aCond t24
      (Do (aNil a0) fun t26 =>
      Do (aFieldAddr 0 1 t26) fun t27 =>
      Do (loadA false 1 t27 σ_1) fun t28 =>
      Do (aBuiltin Go.Proofs.Try.prog .len #[39] [t28]) fun t29 =>
      j [a0, t15, t29] σ_1)
      (j [a0, t15, t21] σ_1)) fun vs σ_2 =>
  At vs 0 fun s0 => At vs 1 fun s7 => At vs 2 fun s9 => Do (aNil s0) fun t31 =>
  Do (aFieldAddr 0 1 t31) fun t32 =>
  Do (loadA false 1 t32 σ_2) fun t33 =>
  Do (aBuiltin Go.Proofs.Try.prog .max #[3, 3] [s7, s9]) fun t37 =>
  Do (aSlice .slice 4 t33 (some s7) (some t37) none) fun t38 =>
  aCall Go.Proofs.Try.prog 38 [t38] σ_2 (fun t39 σ_3 =>
  Q (.ret t39) σ_3) (fun e σ_4 => Q (.pan e) σ_4)) (fun e_1 σ_5 => Q (.pan e_1) σ_5)) (fun e_2 σ_6 => Q (.pan e_2) σ_6)
theorem mem_Mem_Range.eq (a0 a1 a2 : AV) (σ : Store) (Q : AEnd → Store → Prop) : vc (semOf Go.Proofs.Try.prog mem_Mem_Range.mark) Go.Proofs.Try.f19.ntmps mem_Mem_Range.ann (bodyOf Go.Proofs.Try.f19) (endK [.tmp 6] Q) (argFr [a0, a1, a2]) σ = mem_Mem_Range.sh a0 a1 a2 σ Q := by kernel_rfl
theorem mem_Mem_Range.go {a0 a1 a2 : AV} {σ : Store} {Q : AEnd → Store → Prop} (h : mem_Mem_Range.sh a0 a1 a2 σ Q) : ACalls Go.Proofs.Try.prog 19 [a0, a1, a2] σ Q :=
  acalls_of_eq [.tmp 6] Go.Proofs.Try.func19 (by kernel_rfl) (by kernel_rfl) (by kernel_rfl) (by kernel_rfl) (mem_Mem_Range.eq a0 a1 a2 σ Q) h
def mem_Mem_All.mark : Mark := ⟨fun t => false, fun t => false, fun t => false, fun t => false, fun t => false⟩
def mem_Mem_All.ann : Ann := ⟨fun n => [], fun n => none, fun n => none⟩
/-- '(*marlstone/mem.Mem).All' -/
def mem_Mem_All.sh (a0 : AV) (σ : Store) (Q : AEnd → Store → Prop) : Prop :=
  aCall Go.Proofs.Try.prog 19 [a0, (.val (.string ⟨#[]⟩)), (.val (.string ⟨#[]⟩))] σ (fun t4 σ =>
  Q (.ret t4) σ) (fun e σ_1 => Q (.pan e) σ_1)
theorem mem_Mem_All.eq (a0 : AV) (σ : Store) (Q : AEnd → Store → Prop) : vc (semOf Go.Proofs.Try.prog mem_Mem_All.mark) Go.Proofs.Try.f25.ntmps mem_Mem_All.ann (bodyOf Go.Proofs.Try.f25) (endK [.tmp 2] Q) (argFr [a0]) σ = mem_Mem_All.sh a0 σ Q := by kernel_rfl
theorem mem_Mem_All.go {a0 : AV} {σ : Store} {Q : AEnd → Store → Prop} (h : mem_Mem_All.sh a0 σ Q) : ACalls Go.Proofs.Try.prog 25 [a0] σ Q :=
  acalls_of_eq [.tmp 2] Go.Proofs.Try.func25 (by kernel_rfl) (by kernel_rfl) (by kernel_rfl) (by kernel_rfl) (mem_Mem_All.eq a0 σ Q) h
def mem_Mem_Len.mark : Mark := ⟨fun t => false, fun t => false, fun t => false, fun t => false, fun t => false⟩
def mem_Mem_Len.ann : Ann := ⟨fun n => [], fun n => none, fun n => none⟩
/-- '(*marlstone/mem.Mem).Len' -/
def mem_Mem_Len.sh (a0 : AV) (σ : Store) (Q : AEnd → Store → Prop) : Prop :=
  Do (aNil a0) fun t4 =>
  Do (aFieldAddr 0 1 t4) fun t5 =>
  Do (loadA false 1 t5 σ) fun t6 =>
  Do (aBuiltin Go.Proofs.Try.prog .len #[39] [t6]) fun t7 =>
  Q (.ret t7) σ
theorem mem_Mem_Len.eq (a0 : AV) (σ : Store) (Q : AEnd → Store → Prop) : vc (semOf Go.Proofs.Try.prog mem_Mem_Len.mark) Go.Proofs.Try.f12.ntmps mem_Mem_Len.ann (bodyOf Go.Proofs.Try.f12) (endK [.tmp 2] Q) (argFr [a0]) σ = mem_Mem_Len.sh a0 σ Q := by kernel_rfl
theorem mem_Mem_Len.go {a0 : AV} {σ : Store} {Q : AEnd → Store → Prop} (h : mem_Mem_Len.sh a0 σ Q) : ACalls Go.Proofs.Try.prog 12 [a0] σ Q :=
  acalls_of_eq [.tmp 2] Go.Proofs.Try.func12 (by kernel_rfl) (by kernel_rfl) (by kernel_rfl) (by kernel_rfl) (mem_Mem_Len.eq a0 σ Q) h
def mem_Mem_Last.mark : Mark := ⟨fun t => false, fun t => false, fun t => false, fun t => false, fun t => false⟩
def mem_Mem_Last.ann : Ann := ⟨fun n => [], fun n => none, fun n => none⟩
/-- '(*marlstone/mem.Mem).Last' -/
def mem_Mem_Last.sh (a0 : AV) (σ : Store) (Q : AEnd → Store → Prop) : Prop :=
  Do (aNil a0) fun t4 =>
  Do (aFieldAddr 1 1 t4) fun t5 =>
  Do (loadA false 1 t5 σ) fun t6 =>
  Q (.ret t6) σ
theorem mem_Mem_Last.eq (a0 : AV) (σ : Store) (Q : AEnd → Store → Prop) : vc (semOf Go.Proofs.Try.prog mem_Mem_Last.mark) Go.Proofs.Try.f14.ntmps mem_Mem_Last.ann (bodyOf Go.Proofs.Try.f14) (endK [.tmp 2] Q) (argFr [a0]) σ = mem_Mem_Last.sh a0 σ Q := by kernel_rfl
theorem mem_Mem_Last.go {a0 : AV} {σ : Store} {Q : AEnd → Store → Prop} (h : mem_Mem_Last.sh a0 σ Q) : ACalls Go.Proofs.Try.prog 14 [a0] σ Q :=
  acalls_of_eq [.tmp 2] Go.Proofs.Try.func14 (by kernel_rfl) (by kernel_rfl) (by kernel_rfl) (by kernel_rfl) (mem_Mem_Last.eq a0 σ Q) h
def mem_Mem_Chain.mark : Mark := ⟨fun t => false, fun t => false, fun t => false, fun t => false, fun t => false⟩
def mem_Mem_Chain.ann : Ann := ⟨fun n => [], fun n => none, fun n => none⟩
/-- '(*marlstone/mem.Mem).Chain' -/
def mem_Mem_Chain.sh (a0 : AV) (σ : Store) (Q : AEnd → Store → Prop) : Prop :=
  aNewVar 45 [.val (.int .u8 0), .val (.int .u8 0), .val (.int .u8 0), .val (.int .u8 0), .val (.int .u8 0), .val (.int .u8 0), .val (.int .u8 0), .val (.int .u8 0), .val (.int .u8 0), .val (.int .u8 0), .val (.int .u8 0), .val (.int .u8 0), .val (.int .u8 0), .val (.int .u8 0), .val (.int .u8 0), .val (.int .u8 0), .val (.int .u8 0), .val (.int .u8 0), .val (.int .u8 0), .val (.int .u8 0), .val (.int .u8 0), .val (.int .u8 0), .val (.int .u8 0), .val (.int .u8 0), .val (.int .u8 0), .val (.int .u8 0), .val (.int .u8 0), .val (.int .u8 0), .val (.int .u8 0), .val (.int .u8 0), .val (.int .u8 0), .val (.int .u8 0)] σ fun t2 σ =>
  Do (aNil a0) fun t4 =>
  Do (aFieldAddr 2 32 t4) fun t5 =>
  Do (loadA true 32 t5 σ) fun t6 =>
  storeA 32 t2 t6 σ fun u σ_1 =>
  Do (loadA true 32 t2 σ_1) fun r2 => Q (.ret r2) σ_1
theorem mem_Mem_Chain.eq (a0 : AV) (σ : Store) (Q : AEnd → Store → Prop) : vc (semOf Go.Proofs.Try.prog mem_Mem_Chain.mark) Go.Proofs.Try.f24.ntmps mem_Mem_Chain.ann (bodyOf Go.Proofs.Try.f24) (endK [.cell 2 true 32] Q) (argFr [a0]) σ = mem_Mem_Chain.sh a0 σ Q := by kernel_rfl
theorem mem_Mem_Chain.go {a0 : AV} {σ : Store} {Q : AEnd → Store → Prop} (h : mem_Mem_Chain.sh a0 σ Q) : ACalls Go.Proofs.Try.prog 24 [a0] σ Q :=
  acalls_of_eq [.cell 2 true 32] Go.Proofs.Try.func24 (by kernel_rfl) (by kernel_rfl) (by kernel_rfl) (by kernel_rfl) (mem_Mem_Chain.eq a0 σ Q) h
def mem_Mem_Clear.mark : Mark := ⟨fun t => Nat.beq t 4, fun t => false, fun t => false, fun t => false, fun t => false⟩
def mem_Mem_Clear.ann : Ann := ⟨fun n => [], fun n => none, fun n => none⟩
/-- '(*marlstone/mem.Mem).Clear' -/
def mem_Mem_Clear.sh (a0 : AV) (σ : Store) (Q : AEnd → Store → Prop) : Prop :=
  Do (aPureC Go.Proofs.Try.prog 29 [(.val (.slice none 0 0))]) fun t4 =>
  Do (aNil a0) fun t5 =>
  Do (aFieldAddr 0 1 t5) fun t6 =>
  storeA 1 t6 (.val (.slice none 0 0)) σ fun u σ =>
  Do (aNil a0) fun t7 =>
  Do (aFieldAddr 2 32 t7) fun t8 =>
  storeA 32 t8 t4 σ fun u_1 σ_1 =>
  Q (.ret (.tuple [])) σ_1
theorem mem_Mem_Clear.eq (a0 : AV) (σ : Store) (Q : AEnd → Store → Prop) : vc (semOf Go.Proofs.Try.prog mem_Mem_Clear.mark) Go.Proofs.Try.f13.ntmps mem_Mem_Clear.ann (bodyOf Go.Proofs.Try.f13) (endK [] Q) (argFr [a0]) σ = mem_Mem_Clear.sh a0 σ Q := by kernel_rfl
theorem mem_Mem_Clear.go {a0 : AV} {σ : Store} {Q : AEnd → Store → Prop} (h : mem_Mem_Clear.sh a0 σ Q) : ACalls Go.Proofs.Try.prog 13 [a0] σ Q :=
  acalls_of_eq [] Go.Proofs.Try.func13 (by kernel_rfl) (by kernel_rfl) (by kernel_rfl) (by kernel_rfl) (mem_Mem_Clear.eq a0 σ Q) h
theorem place1_ok (e : En) (k : List UInt8) : aPure Go.Proofs.Try.prog 45 [e.av, S k] (I .i64 (cmpK e.key k)) := by
  refine mem_Mem_place_1.go ?_
  unfold mem_Mem_place_1.sh
  repeat' (first | with_reducible apply Stp.go | with_reducible refine imp fun _ => ?_ | (with_reducible refine hyp ?_ ?_; first | assumption | exact leftT_mem (by assumption)) | (with_reducible refine need ?_ ?_; first | trivial | omega | exact ⟨by assumption, by omega⟩ | (simp only [List.length_append, List.length_cons, List.length_nil, List.length_map, List.length_take, List.length_drop, List.length_replicate, List.length_set]; omega)) | (with_reducible refine fact ?_ ?_; first | trivial | exact ⟨rfl, rfl⟩ | kernel_rfl) | with_reducible refine choT (by assumption) ?_ | with_reducible refine choF (by assumption) ?_ | with_reducible refine choF' (by assumption) ?_ | (with_reducible refine altT ?_ ?_; first | omega | (simp only [List.length_append, List.length_cons, List.length_nil, List.length_map, List.length_take, List.length_drop, List.length_replicate, List.length_set]; omega)) | with_reducible refine altF ?_ | with_reducible refine all fun _ => ?_ | with_reducible refine both ?_ ?_ | (with_reducible refine choT ?_ ?_; omega) | (with_reducible refine choF ?_ ?_; omega) | with_reducible refine cho (fun _ => ?_) (fun _ => ?_))
  exact ⟨rfl, rfl⟩
instance {a : AV} {l : List En} {m : SM} {k : List UInt8} [h : IsL a En.av 4 l m] : PC Go.Proofs.Try.prog 44 [a, S k, .val (.func (.func 45) #[] #[])] (Rises l ∧ l.length ≤ 1000000000000) (.tuple [I .i64 (placeN l k : Nat), B (hasK l k)]) := ⟨fun hl => ⟨[.lst 4 (l.map En.av) m, S k, .val (.func (.func 45) #[] #[])], ⟨h.sub, SubVs.refl _⟩, Search_ok l m k _ (fun e => place1_ok e k) hl.1 hl.2⟩⟩
theorem place_ok (b : Nat) (v : Value) (l : List En) (s : Int) (c k : List UInt8) (hr : Rises l) (hl : l.length ≤ 1000000) : ACalls Go.Proofs.Try.prog 30 [ptrAt b 0, S k] (memS b v l s c) fun x σ' => x = .ret (.tuple [I .i64 (placeN l k : Nat), B (hasK l k)]) ∧ σ' = memS b v l s c := by
  refine mem_Mem_place.go ?_
  unfold mem_Mem_place.sh
  repeat' (first | with_reducible apply Stp.go | with_reducible refine imp fun _ => ?_ | (with_reducible refine hyp ?_ ?_; first | assumption | exact leftT_mem (by assumption)) | (with_reducible refine need ?_ ?_; first | trivial | omega | exact ⟨by assumption, by omega⟩ | (simp only [List.length_append, List.length_cons, List.length_nil, List.length_map, List.length_take, List.length_drop, List.length_replicate, List.length_set]; omega)) | (with_reducible refine fact ?_ ?_; first | trivial | exact ⟨rfl, rfl⟩ | kernel_rfl) | with_reducible refine choT (by assumption) ?_ | with_reducible refine choF (by assumption) ?_ | with_reducible refine choF' (by assumption) ?_ | (with_reducible refine altT ?_ ?_; first | omega | (simp only [List.length_append, List.length_cons, List.length_nil, List.length_map, List.length_take, List.length_drop, List.length_replicate, List.length_set]; omega)) | with_reducible refine altF ?_ | with_reducible refine all fun _ => ?_ | with_reducible refine both ?_ ?_ | (with_reducible refine choT ?_ ?_; omega) | (with_reducible refine choF ?_ ?_; omega) | with_reducible refine cho (fun _ => ?_) (fun _ => ?_))
  exact ⟨rfl, rfl⟩
instance {b : Nat} {σ rest : Store} {v : Value} {l : List En} {s : Int} {c k : List UInt8} [h : MemAt b σ v l s c rest] : EC Go.Proofs.Try.prog 30 [ptrAt b 0, S k] σ (Rises l ∧ l.length ≤ 1000000) Unit (fun _ => .tuple [I .i64 (placeN l k : Nat), B (hasK l k)]) (fun _ => σ) := ⟨fun hl => ((place_ok b v l s c k hl.1 hl.2).same h.perm).mono fun x σ' ⟨e1, e2⟩ => ⟨(), e1, e2⟩⟩
theorem mem_New_ok : ACalls Go.Proofs.Try.prog 10 [] [] fun x σ' => ∃ b, x = .ret (ptrAt b 0) ∧ σ' = memS b (.slice none 0 0) [] 0 (sha []) := by
  refine ACalls.fin (mem_New.go ?_)
  unfold mem_New.sh
  repeat' (first | with_reducible apply Stp.go | with_reducible refine imp fun _ => ?_ | (with_reducible refine hyp ?_ ?_; first | assumption | exact leftT_mem (by assumption)) | (with_reducible refine need ?_ ?_; first | trivial | omega | exact ⟨by assumption, by omega⟩ | (simp only [List.length_append, List.length_cons, List.length_nil, List.length_map, List.length_take, List.length_drop, List.length_replicate, List.length_set]; omega)) | (with_reducible refine fact ?_ ?_; first | trivial | exact ⟨rfl, rfl⟩ | kernel_rfl) | with_reducible refine choT (by assumption) ?_ | with_reducible refine choF (by assumption) ?_ | with_reducible refine choF' (by assumption) ?_ | (with_reducible refine altT ?_ ?_; first | omega | (simp only [List.length_append, List.length_cons, List.length_nil, List.length_map, List.length_take, List.length_drop, List.length_replicate, List.length_set]; omega)) | with_reducible refine altF ?_ | with_reducible refine all fun _ => ?_ | with_reducible refine both ?_ ?_ | (with_reducible refine choT ?_ ?_; omega) | (with_reducible refine choF ?_ ?_; omega) | with_reducible refine cho (fun _ => ?_) (fun _ => ?_))
  refine litMem rfl rfl rfl ?_
  repeat' (first | with_reducible apply Stp.go | with_reducible refine imp fun _ => ?_ | (with_reducible refine hyp ?_ ?_; first | assumption | exact leftT_mem (by assumption)) | (with_reducible refine need ?_ ?_; first | trivial | omega | exact ⟨by assumption, by omega⟩ | (simp only [List.length_append, List.length_cons, List.length_nil, List.length_map, List.length_take, List.length_drop, List.length_replicate, List.length_set]; omega)) | (with_reducible refine fact ?_ ?_; first | trivial | exact ⟨rfl, rfl⟩ | kernel_rfl) | with_reducible refine choT (by assumption) ?_ | with_reducible refine choF (by assumption) ?_ | with_reducible refine choF' (by assumption) ?_ | (with_reducible refine altT ?_ ?_; first | omega | (simp only [List.length_append, List.length_cons, List.length_nil, List.length_map, List.length_take, List.length_drop, List.length_replicate, List.length_set]; omega)) | with_reducible refine altF ?_ | with_reducible refine all fun _ => ?_ | with_reducible refine both ?_ ?_ | (with_reducible refine choT ?_ ?_; omega) | (with_reducible refine choF ?_ ?_; omega) | with_reducible refine cho (fun _ => ?_) (fun _ => ?_))
  exact ⟨_, _, _, rfl, Sub.nilCell EnT_ (sz := 4) (by decide) _, _, rfl, rfl⟩
instance {σ : Store} : EC Go.Proofs.Try.prog 10 [] σ True Nat (fun b => ptrAt b 0) (fun b => memS b (.slice none 0 0) [] 0 (sha []) ++ σ) := ⟨fun _ => (mem_New_ok.frame σ).mono fun x τ ⟨σ1, e1, _, b, e2, e3⟩ => ⟨b, e2, by rw [e1, e3]⟩⟩
/-- The entry of a key. -/
def keyV (l : List En) (k : List UInt8) : En := if hasK l k = true then l.getD (placeN l k) default else En.zero
theorem mem_Get_ok (b : Nat) (v : Value) (l : List En) (s : Int) (c k : List UInt8) (hr : Rises l) (hl : l.length ≤ 1000000) : ACalls Go.Proofs.Try.prog 22 [ptrAt b 0, S k] (memS b v l s c) fun x σ' => x = .ret (.tuple [(keyV l k).av, B (hasK l k)]) ∧ σ' = memS b v l s c := by
  refine ACalls.fin (mem_Mem_Get.go ?_)
  unfold mem_Mem_Get.sh
  have z0 : (⟨[], [], false, 0⟩ : En) = En.zero := rfl
  have hp := fun h => (place_lt (F := l) (k := k) hr h).1
  repeat' (first | with_reducible apply Stp.go | with_reducible refine imp fun _ => ?_ | (with_reducible refine hyp ?_ ?_; first | assumption | exact leftT_mem (by assumption)) | (with_reducible refine need ?_ ?_; first | trivial | omega | exact ⟨by assumption, by omega⟩ | (simp only [List.length_append, List.length_cons, List.length_nil, List.length_map, List.length_take, List.length_drop, List.length_replicate, List.length_set]; omega)) | (with_reducible refine fact ?_ ?_; first | trivial | exact ⟨rfl, rfl⟩ | kernel_rfl) | with_reducible refine choT (by assumption) ?_ | with_reducible refine choF (by assumption) ?_ | with_reducible refine choF' (by assumption) ?_ | (with_reducible refine altT ?_ ?_; first | omega | (simp only [List.length_append, List.length_cons, List.length_nil, List.length_map, List.length_take, List.length_drop, List.length_replicate, List.length_set]; omega)) | with_reducible refine altF ?_ | with_reducible refine all fun _ => ?_ | with_reducible refine both ?_ ?_ | (with_reducible refine choT ?_ ?_; omega) | (with_reducible refine choF ?_ ?_; omega) | with_reducible refine cho (fun _ => ?_) (fun _ => ?_))
  · rename_i b4 _ hk
    have hp2 := hp hk
    repeat' (first | with_reducible apply Stp.go | with_reducible refine imp fun _ => ?_ | (with_reducible refine hyp ?_ ?_; first | assumption | exact leftT_mem (by assumption)) | (with_reducible refine need ?_ ?_; first | trivial | omega | exact ⟨by assumption, by omega⟩ | (simp only [List.length_append, List.length_cons, List.length_nil, List.length_map, List.length_take, List.length_drop, List.length_replicate, List.length_set]; omega)) | (with_reducible refine fact ?_ ?_; first | trivial | exact ⟨rfl, rfl⟩ | kernel_rfl) | with_reducible refine choT (by assumption) ?_ | with_reducible refine choF (by assumption) ?_ | with_reducible refine choF' (by assumption) ?_ | (with_reducible refine altT ?_ ?_; first | omega | (simp only [List.length_append, List.length_cons, List.length_nil, List.length_map, List.length_take, List.length_drop, List.length_replicate, List.length_set]; omega)) | with_reducible refine altF ?_ | with_reducible refine all fun _ => ?_ | with_reducible refine both ?_ ?_ | (with_reducible refine choT ?_ ?_; omega) | (with_reducible refine choF ?_ ?_; omega) | with_reducible refine cho (fun _ => ?_) (fun _ => ?_))
    refine ⟨_, _, _, rfl, subS (τ := memS b v l s c) _, ?_, rfl⟩
    rw [keyV, if_pos hk, hk]
  · rename_i b4 _ hk
    refine ⟨_, _, _, rfl, subS (τ := memS b v l s c) _, ?_, rfl⟩
    rw [keyV, if_neg hk, Bool.eq_false_iff.2 hk]
    rfl
instance {b : Nat} {σ rest : Store} {v : Value} {l : List En} {s : Int} {c k : List UInt8} [h : MemAt b σ v l s c rest] : EC Go.Proofs.Try.prog 22 [ptrAt b 0, S k] σ (Rises l ∧ l.length ≤ 1000000) Unit (fun _ => .tuple [(keyV l k).av, B (hasK l k)]) (fun _ => σ) := ⟨fun hl => ((mem_Get_ok b v l s c k hl.1 hl.2).same h.perm).mono fun x σ' ⟨e1, e2⟩ => ⟨(), e1, e2⟩⟩
instance {σ rest : Store} {put : Ent → Store} {v : Value} {l : List En} {a n : Nat} [h : RowAt v σ EnT_ 4 (l.map En.av) 0 put rest] : EC Go.Proofs.Try.prog 38 [.sub v 4 a n] σ (a + n ≤ l.length ∧ l.length ≤ 1000000) Value (fun v' => .own v' n) (fun v' => [.row v' EnT_ 4 (((l.drop a).take n).map En.av) 0, .row v EnT_ 4 (l.map En.av) 0] ++ rest) := ⟨fun hl => by
  obtain ⟨σ1, σ2, rfl, _, rfl⟩ := h.at_
  exact ((Clone_ok v l a n hl.1 hl.2).part (σ := σ1 ++ .row v EnT_ 4 (l.map En.av) 0 :: σ2) (rest := σ1 ++ σ2) List.perm_middle).mono fun x σ' ⟨τ, e1, v', e2, e3⟩ => ⟨v', e2, by rw [e1, e3]⟩⟩
def toN (l : List En) (hi : List UInt8) : Nat := if hi = [] then l.length else placeN l hi
/-- The entries of a range of keys. -/
def rangeL (l : List En) (lo hi : List UInt8) : List En := (l.drop (placeN l lo)).take (max (placeN l lo) (toN l hi) - placeN l lo)
theorem mem_Range_ok (b : Nat) (v : Value) (l : List En) (s : Int) (c lo hi : List UInt8) (hr : Rises l) (hl : l.length ≤ 1000000) : ACalls Go.Proofs.Try.prog 19 [ptrAt b 0, S lo, S hi] (memS b v l s c) fun x σ' => ∃ v', x = .ret (.own v' (rangeL l lo hi).length) ∧ σ' = .row v' EnT_ 4 ((rangeL l lo hi).map En.av) 0 :: memS b v l s c := by
  refine ACalls.fin (mem_Mem_Range.go ?_)
  unfold mem_Mem_Range.sh
  have h1 := placeN_le l lo
  have h2 := placeN_le l hi
  repeat' (first | with_reducible apply Stp.go | with_reducible refine imp fun _ => ?_ | (with_reducible refine hyp ?_ ?_; first | assumption | exact leftT_mem (by assumption)) | (with_reducible refine need ?_ ?_; first | trivial | omega | exact ⟨by assumption, by omega⟩ | (simp only [List.length_append, List.length_cons, List.length_nil, List.length_map, List.length_take, List.length_drop, List.length_replicate, List.length_set]; omega)) | (with_reducible refine fact ?_ ?_; first | trivial | exact ⟨rfl, rfl⟩ | kernel_rfl) | with_reducible refine choT (by assumption) ?_ | with_reducible refine choF (by assumption) ?_ | with_reducible refine choF' (by assumption) ?_ | (with_reducible refine altT ?_ ?_; first | omega | (simp only [List.length_append, List.length_cons, List.length_nil, List.length_map, List.length_take, List.length_drop, List.length_replicate, List.length_set]; omega)) | with_reducible refine altF ?_ | with_reducible refine all fun _ => ?_ | with_reducible refine both ?_ ?_ | (with_reducible refine choT ?_ ?_; omega) | (with_reducible refine choF ?_ ?_; omega) | with_reducible refine cho (fun _ => ?_) (fun _ => ?_))
  refine joinI (β := Unit) (fun _ => True) (fun _ => [ptrAt b 0, I .i64 (placeN l lo : Nat), I .i64 (toN l hi : Nat)]) (fun _ => memS b v l s c) ?_ ?_
  · repeat' (first | with_reducible apply Stp.go | with_reducible refine imp fun _ => ?_ | (with_reducible refine hyp ?_ ?_; first | assumption | exact leftT_mem (by assumption)) | (with_reducible refine need ?_ ?_; first | trivial | omega | exact ⟨by assumption, by omega⟩ | (simp only [List.length_append, List.length_cons, List.length_nil, List.length_map, List.length_take, List.length_drop, List.length_replicate, List.length_set]; omega)) | (with_reducible refine fact ?_ ?_; first | trivial | exact ⟨rfl, rfl⟩ | kernel_rfl) | with_reducible refine choT (by assumption) ?_ | with_reducible refine choF (by assumption) ?_ | with_reducible refine choF' (by assumption) ?_ | (with_reducible refine altT ?_ ?_; first | omega | (simp only [List.length_append, List.length_cons, List.length_nil, List.length_map, List.length_take, List.length_drop, List.length_replicate, List.length_set]; omega)) | with_reducible refine altF ?_ | with_reducible refine all fun _ => ?_ | with_reducible refine both ?_ ?_ | (with_reducible refine choT ?_ ?_; omega) | (with_reducible refine choF ?_ ?_; omega) | with_reducible refine cho (fun _ => ?_) (fun _ => ?_))
    · rename_i h
      refine meet () trivial ?_
      rw [toN, if_pos h]
      exact Sub.refl _ _
    · rename_i h
      refine meet () trivial ?_
      rw [toN, if_neg h]
      exact Sub.refl _ _
  · intro _ _
    have h3 : toN l hi ≤ l.length := by unfold toN; split <;> omega
    repeat' (first | with_reducible apply Stp.go | with_reducible refine imp fun _ => ?_ | (with_reducible refine hyp ?_ ?_; first | assumption | exact leftT_mem (by assumption)) | (with_reducible refine need ?_ ?_; first | trivial | omega | exact ⟨by assumption, by omega⟩ | (simp only [List.length_append, List.length_cons, List.length_nil, List.length_map, List.length_take, List.length_drop, List.length_replicate, List.length_set]; omega)) | (with_reducible refine fact ?_ ?_; first | trivial | exact ⟨rfl, rfl⟩ | kernel_rfl) | with_reducible refine choT (by assumption) ?_ | with_reducible refine choF (by assumption) ?_ | with_reducible refine choF' (by assumption) ?_ | (with_reducible refine altT ?_ ?_; first | omega | (simp only [List.length_append, List.length_cons, List.length_nil, List.length_map, List.length_take, List.length_drop, List.length_replicate, List.length_set]; omega)) | with_reducible refine altF ?_ | with_reducible refine all fun _ => ?_ | with_reducible refine both ?_ ?_ | (with_reducible refine choT ?_ ?_; omega) | (with_reducible refine choF ?_ ?_; omega) | with_reducible refine cho (fun _ => ?_) (fun _ => ?_))
    rename_i v'
    have e1 : (rangeL l lo hi).length = max (placeN l lo) (toN l hi) - placeN l lo := by rw [rangeL, List.length_take, List.length_drop]; omega
    refine ⟨_, _, _, rfl, Sub.perm (τ := .row v' EnT_ 4 ((rangeL l lo hi).map En.av) 0 :: memS b v l s c) ?_ _, v', ?_, rfl⟩
    · exact List.Perm.cons _ (List.Perm.swap _ _ _)
    · rw [e1]
instance {b : Nat} {σ rest : Store} {v : Value} {l : List En} {s : Int} {c lo hi : List UInt8} [h : MemAt b σ v l s c rest] : EC Go.Proofs.Try.prog 19 [ptrAt b 0, S lo, S hi] σ (Rises l ∧ l.length ≤ 1000000) Value (fun v' => .own v' (rangeL l lo hi).length) (fun v' => .row v' EnT_ 4 ((rangeL l lo hi).map En.av) 0 :: σ) := ⟨fun hl => by
  refine ((mem_Range_ok b v l s c lo hi hl.1 hl.2).part h.perm).sub ?_
  rintro x σ' ⟨σ1, rfl, v', rfl, rfl⟩
  exact ⟨_, _, _, rfl, Sub.perm (List.Perm.cons _ h.perm.symm) _, v', rfl, rfl⟩⟩
theorem placeN_nil (l : List En) : placeN l [] = 0 := by
  unfold placeN
  rw [List.countP_eq_zero]
  intro x _
  cases x.key <;> simp [lt, Op.bytesLess]
theorem rangeL_all (l : List En) : rangeL l [] [] = l := by
  rw [rangeL, placeN_nil, toN, if_pos rfl]
  simp
theorem mem_All_ok (b : Nat) (v : Value) (l : List En) (s : Int) (c : List UInt8) (hr : Rises l) (hl : l.length ≤ 1000000) : ACalls Go.Proofs.Try.prog 25 [ptrAt b 0] (memS b v l s c) fun x σ' => ∃ v', x = .ret (.own v' l.length) ∧ σ' = .row v' EnT_ 4 (l.map En.av) 0 :: memS b v l s c := by
  refine mem_Mem_All.go ?_
  unfold mem_Mem_All.sh
  repeat' (first | with_reducible apply Stp.go | with_reducible refine imp fun _ => ?_ | (with_reducible refine hyp ?_ ?_; first | assumption | exact leftT_mem (by assumption)) | (with_reducible refine need ?_ ?_; first | trivial | omega | exact ⟨by assumption, by omega⟩ | (simp only [List.length_append, List.length_cons, List.length_nil, List.length_map, List.length_take, List.length_drop, List.length_replicate, List.length_set]; omega)) | (with_reducible refine fact ?_ ?_; first | trivial | exact ⟨rfl, rfl⟩ | kernel_rfl) | with_reducible refine choT (by assumption) ?_ | with_reducible refine choF (by assumption) ?_ | with_reducible refine choF' (by assumption) ?_ | (with_reducible refine altT ?_ ?_; first | omega | (simp only [List.length_append, List.length_cons, List.length_nil, List.length_map, List.length_take, List.length_drop, List.length_replicate, List.length_set]; omega)) | with_reducible refine altF ?_ | with_reducible refine all fun _ => ?_ | with_reducible refine both ?_ ?_ | (with_reducible refine choT ?_ ?_; omega) | (with_reducible refine choF ?_ ?_; omega) | with_reducible refine cho (fun _ => ?_) (fun _ => ?_))
  rename_i v'
  rw [rangeL_all]
  exact ⟨v', rfl, rfl⟩
instance {b : Nat} {σ rest : Store} {v : Value} {l : List En} {s : Int} {c : List UInt8} [h : MemAt b σ v l s c rest] : EC Go.Proofs.Try.prog 25 [ptrAt b 0] σ (Rises l ∧ l.length ≤ 1000000) Value (fun v' => .own v' l.length) (fun v' => .row v' EnT_ 4 (l.map En.av) 0 :: σ) := ⟨fun hl => by
  refine ((mem_All_ok b v l s c hl.1 hl.2).part h.perm).sub ?_
  rintro x σ' ⟨σ1, rfl, v', rfl, rfl⟩
  exact ⟨_, _, _, rfl, Sub.perm (List.Perm.cons _ h.perm.symm) _, v', rfl, rfl⟩⟩
theorem mem_Len_ok (b : Nat) (v : Value) (l : List En) (s : Int) (c : List UInt8) : ACalls Go.Proofs.Try.prog 12 [ptrAt b 0] (memS b v l s c) fun x σ' => x = .ret (I .i64 (l.length : Nat)) ∧ σ' = memS b v l s c := by
  refine mem_Mem_Len.go ?_
  unfold mem_Mem_Len.sh
  repeat' (first | with_reducible apply Stp.go | with_reducible refine imp fun _ => ?_ | (with_reducible refine hyp ?_ ?_; first | assumption | exact leftT_mem (by assumption)) | (with_reducible refine need ?_ ?_; first | trivial | omega | exact ⟨by assumption, by omega⟩ | (simp only [List.length_append, List.length_cons, List.length_nil, List.length_map, List.length_take, List.length_drop, List.length_replicate, List.length_set]; omega)) | (with_reducible refine fact ?_ ?_; first | trivial | exact ⟨rfl, rfl⟩ | kernel_rfl) | with_reducible refine choT (by assumption) ?_ | with_reducible refine choF (by assumption) ?_ | with_reducible refine choF' (by assumption) ?_ | (with_reducible refine altT ?_ ?_; first | omega | (simp only [List.length_append, List.length_cons, List.length_nil, List.length_map, List.length_take, List.length_drop, List.length_replicate, List.length_set]; omega)) | with_reducible refine altF ?_ | with_reducible refine all fun _ => ?_ | with_reducible refine both ?_ ?_ | (with_reducible refine choT ?_ ?_; omega) | (with_reducible refine choF ?_ ?_; omega) | with_reducible refine cho (fun _ => ?_) (fun _ => ?_))
  exact ⟨rfl, rfl⟩
instance {b : Nat} {σ rest : Store} {v : Value} {l : List En} {s : Int} {c : List UInt8} [h : MemAt b σ v l s c rest] : EC Go.Proofs.Try.prog 12 [ptrAt b 0] σ True Unit (fun _ => I .i64 (l.length : Nat)) (fun _ => σ) := ⟨fun _ => ((mem_Len_ok b v l s c).same h.perm).mono fun x σ' ⟨e1, e2⟩ => ⟨(), e1, e2⟩⟩
theorem mem_Last_ok (b : Nat) (v : Value) (l : List En) (s : Int) (c : List UInt8) : ACalls Go.Proofs.Try.prog 14 [ptrAt b 0] (memS b v l s c) fun x σ' => x = .ret (I .i64 s) ∧ σ' = memS b v l s c := by
  refine mem_Mem_Last.go ?_
  unfold mem_Mem_Last.sh
  repeat' (first | with_reducible apply Stp.go | with_reducible refine imp fun _ => ?_ | (with_reducible refine hyp ?_ ?_; first | assumption | exact leftT_mem (by assumption)) | (with_reducible refine need ?_ ?_; first | trivial | omega | exact ⟨by assumption, by omega⟩ | (simp only [List.length_append, List.length_cons, List.length_nil, List.length_map, List.length_take, List.length_drop, List.length_replicate, List.length_set]; omega)) | (with_reducible refine fact ?_ ?_; first | trivial | exact ⟨rfl, rfl⟩ | kernel_rfl) | with_reducible refine choT (by assumption) ?_ | with_reducible refine choF (by assumption) ?_ | with_reducible refine choF' (by assumption) ?_ | (with_reducible refine altT ?_ ?_; first | omega | (simp only [List.length_append, List.length_cons, List.length_nil, List.length_map, List.length_take, List.length_drop, List.length_replicate, List.length_set]; omega)) | with_reducible refine altF ?_ | with_reducible refine all fun _ => ?_ | with_reducible refine both ?_ ?_ | (with_reducible refine choT ?_ ?_; omega) | (with_reducible refine choF ?_ ?_; omega) | with_reducible refine cho (fun _ => ?_) (fun _ => ?_))
  exact ⟨rfl, rfl⟩
instance {b : Nat} {σ rest : Store} {v : Value} {l : List En} {s : Int} {c : List UInt8} [h : MemAt b σ v l s c rest] : EC Go.Proofs.Try.prog 14 [ptrAt b 0] σ True Unit (fun _ => I .i64 s) (fun _ => σ) := ⟨fun _ => ((mem_Last_ok b v l s c).same h.perm).mono fun x σ' ⟨e1, e2⟩ => ⟨(), e1, e2⟩⟩
theorem mem_Chain_ok (b : Nat) (v : Value) (l : List En) (s : Int) (c : List UInt8) [hc : Len32 c] : ACalls Go.Proofs.Try.prog 24 [ptrAt b 0] (memS b v l s c) fun x σ' => x = .ret (.agg (c.map byt)) ∧ σ' = memS b v l s c := by
  refine ACalls.fin (mem_Mem_Chain.go ?_)
  unfold mem_Mem_Chain.sh
  have h32 := hc.len
  repeat' (first | with_reducible apply Stp.go | with_reducible refine imp fun _ => ?_ | (with_reducible refine hyp ?_ ?_; first | assumption | exact leftT_mem (by assumption)) | (with_reducible refine need ?_ ?_; first | trivial | omega | exact ⟨by assumption, by omega⟩ | (simp only [List.length_append, List.length_cons, List.length_nil, List.length_map, List.length_take, List.length_drop, List.length_replicate, List.length_set]; omega)) | (with_reducible refine fact ?_ ?_; first | trivial | exact ⟨rfl, rfl⟩ | kernel_rfl) | with_reducible refine choT (by assumption) ?_ | with_reducible refine choF (by assumption) ?_ | with_reducible refine choF' (by assumption) ?_ | (with_reducible refine altT ?_ ?_; first | omega | (simp only [List.length_append, List.length_cons, List.length_nil, List.length_map, List.length_take, List.length_drop, List.length_replicate, List.length_set]; omega)) | with_reducible refine altF ?_ | with_reducible refine all fun _ => ?_ | with_reducible refine both ?_ ?_ | (with_reducible refine choT ?_ ?_; omega) | (with_reducible refine choF ?_ ?_; omega) | with_reducible refine cho (fun _ => ?_) (fun _ => ?_))
  exact ⟨_, _, _, rfl, subS (τ := memS b v l s c) _, rfl, rfl⟩
instance {b : Nat} {σ rest : Store} {v : Value} {l : List En} {s : Int} {c : List UInt8} [h : MemAt b σ v l s c rest] [hc : Len32 c] : EC Go.Proofs.Try.prog 24 [ptrAt b 0] σ True Unit (fun _ => .agg (c.map byt)) (fun _ => σ) := ⟨fun _ => ((mem_Chain_ok b v l s c).same h.perm).mono fun x σ' ⟨e1, e2⟩ => ⟨(), e1, e2⟩⟩
theorem mem_Clear_ok (b : Nat) (v : Value) (l : List En) (s : Int) (c : List UInt8) [hc : Len32 c] : ACalls Go.Proofs.Try.prog 13 [ptrAt b 0] (memS b v l s c) fun x σ' => x = .ret (.tuple []) ∧ σ' = memS b (.slice none 0 0) [] s (sha []) := by
  refine ACalls.fin (mem_Mem_Clear.go ?_)
  unfold mem_Mem_Clear.sh
  repeat' (first | with_reducible apply Stp.go | with_reducible refine imp fun _ => ?_ | (with_reducible refine hyp ?_ ?_; first | assumption | exact leftT_mem (by assumption)) | (with_reducible refine need ?_ ?_; first | trivial | omega | exact ⟨by assumption, by omega⟩ | (simp only [List.length_append, List.length_cons, List.length_nil, List.length_map, List.length_take, List.length_drop, List.length_replicate, List.length_set]; omega)) | (with_reducible refine fact ?_ ?_; first | trivial | exact ⟨rfl, rfl⟩ | kernel_rfl) | with_reducible refine choT (by assumption) ?_ | with_reducible refine choF (by assumption) ?_ | with_reducible refine choF' (by assumption) ?_ | (with_reducible refine altT ?_ ?_; first | omega | (simp only [List.length_append, List.length_cons, List.length_nil, List.length_map, List.length_take, List.length_drop, List.length_replicate, List.length_set]; omega)) | with_reducible refine altF ?_ | with_reducible refine all fun _ => ?_ | with_reducible refine both ?_ ?_ | (with_reducible refine choT ?_ ?_; omega) | (with_reducible refine choF ?_ ?_; omega) | with_reducible refine cho (fun _ => ?_) (fun _ => ?_))
  refine ⟨_, _, _, rfl, Sub.trans (subS (τ := [.var b MT (.val (.slice none 0 0) :: I .i64 s :: (sha []).map byt)]) _) (Sub.nilCell EnT_ (sz := 4) (by decide) _), rfl, rfl⟩
instance {b : Nat} {σ rest : Store} {v : Value} {l : List En} {s : Int} {c : List UInt8} [h : MemAt b σ v l s c rest] [hc : Len32 c] : EC Go.Proofs.Try.prog 13 [ptrAt b 0] σ True Unit (fun _ => .tuple []) (fun _ => memS b (.slice none 0 0) [] s (sha []) ++ rest) := ⟨fun _ => ((mem_Clear_ok b v l s c).part h.perm).mono fun x σ' ⟨σ1, e0, e1, e2⟩ => ⟨(), e1, by rw [e0, e2]⟩⟩
end Go.Ab

/- A mem: Put. -/
set_option linter.unusedVariables false
set_option linter.unusedSimpArgs false
namespace Go.Ab
/-- The entries with one more. -/
def insL (l : List En) (e : En) : List En := if hasK l e.key = true then l.set (placeN l e.key) e else l.take (placeN l e.key) ++ e :: l.drop (placeN l e.key)
def linkB (c : List UInt8) (e : En) : List UInt8 := sha ([2] ++ c ++ enB e)
def putX (l : List En) (s : Int) (e : En) : Nat := if right e = true ∧ ¬ e.seq ≤ s then (if hasK l e.key = true then 0 else if l.length = 64 then 3 else 0) else 1
def putL (l : List En) (s : Int) (e : En) : List En := if putX l s e = 0 then insL l e else l
def putS (l : List En) (s : Int) (e : En) : Int := if putX l s e = 0 then e.seq else s
def putC (l : List En) (s : Int) (c : List UInt8) (e : En) : List UInt8 := if putX l s e = 0 then linkB c e else c
instance {l : List En} {s : Int} {c : List UInt8} {e : En} [h : Len32 c] : Len32 (putC l s c e) := ⟨by
  unfold putC
  split
  · exact sha_length _
  · exact h.len⟩
instance {c : List UInt8} {e : En} : Len32 (linkB c e) := ⟨sha_length _⟩
instance {σ rest : Store} {v y : Value} {l : List En} {e : En} {i : Nat} {put put2 : Ent → Store} {rest2 : Store} [hy : RowAt y σ EnT_ 4 ([e].map En.av) 0 put rest] [hv : RowAt v rest EnT_ 4 (l.map En.av) 0 put2 rest2] : EC Go.Proofs.Try.prog 31 [.own v l.length, I .i64 (i : Nat), .own y 1] σ (i ≤ l.length ∧ l.length ≤ 1000000) Value (fun v' => .own v' (l.length + 1)) (fun v' => [.row v' EnT_ 4 ((l.take i ++ e :: l.drop i).map En.av) 0] ++ rest2) := ⟨fun hl => by
  obtain ⟨σ1, σ2, rfl, _, rfl⟩ := hy.at_
  obtain ⟨ρ1, ρ2, e1, _, rfl⟩ := hv.at_
  have hp : (σ1 ++ .row y EnT_ 4 ([e].map En.av) 0 :: σ2).Perm ([.row y EnT_ 4 ([e].map En.av) 0, .row v EnT_ 4 (l.map En.av) 0] ++ (ρ1 ++ ρ2)) := by
    refine List.perm_middle.trans ?_
    rw [e1]
    exact List.Perm.cons _ List.perm_middle
  exact ((Insert_ok v y l e i hl.1 hl.2).part hp).mono fun x σ' ⟨τ, g1, v', g2, g3⟩ => ⟨v', g2, by rw [g1, g3]⟩⟩
theorem putErr {b : Nat} {v : Value} {l : List En} {s : Int} {c : List UInt8} {e : En} (h : putX l s e ≠ 0) : memS b v (putL l s e) (putS l s e) (putC l s c e) = memS b v l s c := by
  unfold putL putS putC
  rw [if_neg h, if_neg h, if_neg h]
theorem putOk {b : Nat} {v : Value} {l : List En} {s : Int} {c : List UInt8} {e : En} (h : putX l s e = 0) : memS b v (putL l s e) (putS l s e) (putC l s c e) = memS b v (insL l e) e.seq (linkB c e) := by
  unfold putL putS putC
  rw [if_pos h, if_pos h, if_pos h]
theorem insL_old {l : List En} {e : En} (h : hasK l e.key = true) : insL l e = l.set (placeN l e.key) e := by rw [insL, if_pos h]
theorem insL_new {l : List En} {e : En} (h : ¬ hasK l e.key = true) : insL l e = l.take (placeN l e.key) ++ e :: l.drop (placeN l e.key) := by rw [insL, if_neg h]
def mem_Mem_Put.mark : Mark := ⟨fun t => Nat.beq t 28 || Nat.beq t 67 || Nat.beq t 69, fun t => Nat.beq t 22 || Nat.beq t 55, fun t => Nat.beq t 3, fun t => Nat.beq t 11 || Nat.beq t 21 || Nat.beq t 27 || Nat.beq t 32 || Nat.beq t 46 || Nat.beq t 64 || Nat.beq t 66, fun t => false⟩
def mem_Mem_Put.ann : Ann := ⟨fun n => [], fun n => bif Nat.beq n 9 then some [0, 3] else none, fun n => bif Nat.beq n 2 then some [0, 3] else none⟩
/-- '(*marlstone/mem.Mem).Put' -/
def mem_Mem_Put.sh (a0 a1 : AV) (σ : Store) (Q : AEnd → Store → Prop) : Prop :=
  Do (aFreeze ((a1 : AV)).cells) fun t3 =>
  Do (aFieldAddr 0 1 t3) fun t10 =>
  Do (loadF false 1 t10) fun t11 =>
  aCall Go.Proofs.Try.prog 30 [a0, t11] σ (fun t12 σ =>
  Do (aExt t12 0) fun t13 =>
  Do (aExt t12 1) fun t14 =>
  aJoin (fun j =>
    Do (loadF true 4 t3) fun t27 =>
    Do (aPureC Go.Proofs.Try.prog 27 [t27]) fun t28 =>
    Do (aUn Go.Proofs.Try.prog .not t28) fun t29 =>
    Do (aGuard t29 false (aFieldAddr 3 1 t3)) fun t31 =>
    Do (aGuard t29 false (loadF false 1 t31)) fun t32 =>
    Do (aGuard t29 false (aIs a0)) fun t33 =>
    Do (aGuard t29 false (aNil t33)) fun t34 =>
    Do (aGuard t29 false (aFieldAddr 1 1 t34)) fun t35 =>
    Do (aGuard t29 false (loadA false 1 t35 σ)) fun t36 =>
    Do (aGuard t29 false (aBin Go.Proofs.Try.prog .leq 3 t32 t36)) fun t37 =>
    Do (aPick t29 (.val (.bool true)) t37) fun t38 =>
    aCond t38
      (Q (.ret (.val (.int .i64 1))) σ)
      (aCond t14
        (Do (aNil a0) fun t42 =>
        Do (aFieldAddr 0 1 t42) fun t43 =>
        Do (loadA false 1 t43 σ) fun t44 =>
        Do (loadF true 4 t3) fun t46 =>
        Do (aIndexAddr .slice 4 t44 t13) fun t47 =>
        storeA 4 t47 t46 σ fun u σ_2 =>
        j [a0, t3] σ_2)
        (Do (aNil a0) fun t50 =>
        Do (aFieldAddr 0 1 t50) fun t51 =>
        Do (loadA false 1 t51 σ) fun t52 =>
        Do (aBuiltin Go.Proofs.Try.prog .len #[39] [t52]) fun t53 =>
        Do (aBin Go.Proofs.Try.prog .eql 3 t53 (.val (.int .i64 64))) fun t54 =>
        aCond t54
          (Q (.ret (.val (.int .i64 3))) σ)
          (aJoin (fun j_1 =>
            Do (aNil a0) fun t17 =>
            Do (aFieldAddr 0 1 t17) fun t18 =>
            Do (loadF true 4 t3) fun t21 =>
            Both (Do (loadA false 1 t18 σ) fun t19 =>
            aRowL 29 (mkE [.val (.string ⟨#[]⟩), .val (.string ⟨#[]⟩), .val (.bool false), .val (.int .i64 0)]) 4 1 [(0, t21)] σ fun t22 σ_4 =>
            aCall Go.Proofs.Try.prog 31 [t19, t13, t22] σ_4 (fun t23 σ_5 =>
            Do (aNil a0) fun t24 =>
            Do (aFieldAddr 0 1 t24) fun t25 =>
            storeA 1 t25 t23 σ_5 fun u_1 σ_6 =>
            j_1 [a0, t3] σ_6) (fun e σ_7 => Q (.pan e) σ_7)) (aRowL 29 (mkE [.val (.string ⟨#[]⟩), .val (.string ⟨#[]⟩), .val (.bool false), .val (.int .i64 0)]) 4 1 [(0, t21)] σ fun t22_1 σ_8 =>
            Do (loadA false 1 t18 σ_8) fun t19_1 =>
            aCall Go.Proofs.Try.prog 31 [t19_1, t13, t22_1] σ_8 (fun t23_1 σ_9 =>
            Do (aNil a0) fun t24_1 =>
            Do (aFieldAddr 0 1 t24_1) fun t25_1 =>
            storeA 1 t25_1 t23_1 σ_9 fun u_2 σ_10 =>
            j_1 [a0, t3] σ_10) (fun e_1 σ_11 => Q (.pan e_1) σ_11))) fun vs_1 σ_3 =>
          At vs_1 0 fun s0 => At vs_1 1 fun s3 => j [s0, s3] σ_3)))) fun vs σ_1 =>
  At vs 0 fun s0_1 => At vs 1 fun s3_1 => aRowL 5 (mkE [.val (.int .u8 0)]) 1 1 [(0, (W8 2))] σ_1 fun t55 σ_12 =>
  Do (aNil s0_1) fun t57 =>
  Do (aFieldAddr 2 32 t57) fun t58 =>
  Do (aSlice (.array 32) 1 t58 none none none) fun t59 =>
  aAppend 5 1 1 t55 t59 σ_12 (subK fun t60 σ_13 =>
  Do (aFieldAddr 3 1 s3_1) fun t63 =>
  Do (loadF false 1 t63) fun t64 =>
  Do (loadF true 4 s3_1) fun t66 =>
  Do (aPureC Go.Proofs.Try.prog 32 [t66]) fun t67 =>
  aAppend 5 1 1 t60 t67 σ_13 (subF fun t68 σ_14 =>
  Do (aPureC Go.Proofs.Try.prog 29 [t68]) fun t69 =>
  Do (aNil s0_1) fun t70 =>
  Do (aFieldAddr 1 1 t70) fun t71 =>
  storeA 1 t71 t64 σ_14 fun u_3 σ_15 =>
  Do (aNil s0_1) fun t72 =>
  Do (aFieldAddr 2 32 t72) fun t73 =>
  storeA 32 t73 t69 σ_15 fun u_4 σ_16 =>
  Q (.ret (.val (.int .i64 0))) σ_16))) (fun e_2 σ_17 => Q (.pan e_2) σ_17)
theorem mem_Mem_Put.eq (a0 a1 : AV) (σ : Store) (Q : AEnd → Store → Prop) : vc (semOf Go.Proofs.Try.prog mem_Mem_Put.mark) Go.Proofs.Try.f11.ntmps mem_Mem_Put.ann (bodyOf Go.Proofs.Try.f11) (endK [.tmp 4] Q) (argFr [a0, a1]) σ = mem_Mem_Put.sh a0 a1 σ Q := by kernel_rfl
theorem mem_Mem_Put.go {a0 a1 : AV} {σ : Store} {Q : AEnd → Store → Prop} (h : mem_Mem_Put.sh a0 a1 σ Q) : ACalls Go.Proofs.Try.prog 11 [a0, a1] σ Q :=
  acalls_of_eq [.tmp 4] Go.Proofs.Try.func11 (by kernel_rfl) (by kernel_rfl) (by kernel_rfl) (by kernel_rfl) (mem_Mem_Put.eq a0 a1 σ Q) h
theorem mem_Put_ok (b : Nat) (v : Value) (l : List En) (s : Int) (c : List UInt8) [hc : Len32 c] (e : En) (hr : Rises l) (hl : l.length ≤ 1000000) : ACalls Go.Proofs.Try.prog 11 [ptrAt b 0, e.av] (memS b v l s c) fun x σ' => ∃ v', x = .ret (I .i64 (putX l s e : Nat)) ∧ σ' = memS b v' (putL l s e) (putS l s e) (putC l s c e) := by
  refine ACalls.fin (mem_Mem_Put.go ?_)
  unfold mem_Mem_Put.sh
  have hp := placeN_le l e.key
  have hq := fun h => (place_lt (F := l) (k := e.key) hr h).1
  have h32 := hc.len
  have hb := enB_length e
  repeat' (first | with_reducible apply Stp.go | with_reducible refine imp fun _ => ?_ | (with_reducible refine hyp ?_ ?_; first | assumption | exact leftT_mem (by assumption)) | (with_reducible refine need ?_ ?_; first | trivial | omega | exact ⟨by assumption, by omega⟩ | (simp only [List.length_append, List.length_cons, List.length_nil, List.length_map, List.length_take, List.length_drop, List.length_replicate, List.length_set]; omega)) | (with_reducible refine fact ?_ ?_; first | trivial | exact ⟨rfl, rfl⟩ | kernel_rfl) | with_reducible refine choT (by assumption) ?_ | with_reducible refine choF (by assumption) ?_ | with_reducible refine choF' (by assumption) ?_ | (with_reducible refine altT ?_ ?_; first | omega | (simp only [List.length_append, List.length_cons, List.length_nil, List.length_map, List.length_take, List.length_drop, List.length_replicate, List.length_set]; omega)) | with_reducible refine altF ?_ | with_reducible refine all fun _ => ?_ | with_reducible refine both ?_ ?_ | (with_reducible refine choT ?_ ?_; omega) | (with_reducible refine choF ?_ ?_; omega) | with_reducible refine cho (fun _ => ?_) (fun _ => ?_))
  refine joinI (β := Value) (fun _ => putX l s e = 0) (fun _ => [ptrAt b 0, .rptr e.cs]) (fun v' => memS b v' (insL l e) s c) ?_ ?_
  · repeat' (first | with_reducible apply Stp.go | with_reducible refine imp fun _ => ?_ | (with_reducible refine hyp ?_ ?_; first | assumption | exact leftT_mem (by assumption)) | (with_reducible refine need ?_ ?_; first | trivial | omega | exact ⟨by assumption, by omega⟩ | (simp only [List.length_append, List.length_cons, List.length_nil, List.length_map, List.length_take, List.length_drop, List.length_replicate, List.length_set]; omega)) | (with_reducible refine fact ?_ ?_; first | trivial | exact ⟨rfl, rfl⟩ | kernel_rfl) | with_reducible refine choT (by assumption) ?_ | with_reducible refine choF (by assumption) ?_ | with_reducible refine choF' (by assumption) ?_ | (with_reducible refine altT ?_ ?_; first | omega | (simp only [List.length_append, List.length_cons, List.length_nil, List.length_map, List.length_take, List.length_drop, List.length_replicate, List.length_set]; omega)) | with_reducible refine altF ?_ | with_reducible refine all fun _ => ?_ | with_reducible refine both ?_ ?_ | (with_reducible refine choT ?_ ?_; omega) | (with_reducible refine choF ?_ ?_; omega) | with_reducible refine cho (fun _ => ?_) (fun _ => ?_))
    · rename_i h1 h2
      have hx : putX l s e = 1 := by rw [putX, if_neg (fun h => h.2 h2)]
      exact ⟨_, _, _, rfl, Sub.refl _ _, v, by rw [hx]; rfl, (putErr (by rw [hx]; decide)).symm⟩
    · rename_i h1 h2 h3
      have hx : putX l s e = 0 := by rw [putX, if_pos ⟨h1, h2⟩, if_pos h3]
      have h4 := hq h3
      repeat' (first | with_reducible apply Stp.go | with_reducible refine imp fun _ => ?_ | (with_reducible refine hyp ?_ ?_; first | assumption | exact leftT_mem (by assumption)) | (with_reducible refine need ?_ ?_; first | trivial | omega | exact ⟨by assumption, by omega⟩ | (simp only [List.length_append, List.length_cons, List.length_nil, List.length_map, List.length_take, List.length_drop, List.length_replicate, List.length_set]; omega)) | (with_reducible refine fact ?_ ?_; first | trivial | exact ⟨rfl, rfl⟩ | kernel_rfl) | with_reducible refine choT (by assumption) ?_ | with_reducible refine choF (by assumption) ?_ | with_reducible refine choF' (by assumption) ?_ | (with_reducible refine altT ?_ ?_; first | omega | (simp only [List.length_append, List.length_cons, List.length_nil, List.length_map, List.length_take, List.length_drop, List.length_replicate, List.length_set]; omega)) | with_reducible refine altF ?_ | with_reducible refine all fun _ => ?_ | with_reducible refine both ?_ ?_ | (with_reducible refine choT ?_ ?_; omega) | (with_reducible refine choF ?_ ?_; omega) | with_reducible refine cho (fun _ => ?_) (fun _ => ?_))
      refine meet v hx ?_
      have e1 : l.length = (l.set (placeN l e.key) e).length := by simp
      rw [insL_old h3, e1]
      exact Sub.refl _ _
    · rename_i h1 h2 h3 h4
      have hx : putX l s e = 3 := by rw [putX, if_pos ⟨h1, h2⟩, if_neg h3, if_pos h4]
      exact ⟨_, _, _, rfl, Sub.refl _ _, v, by rw [hx]; rfl, (putErr (by rw [hx]; decide)).symm⟩
    · rename_i h1 h2 h3 h4
      have hx : putX l s e = 0 := by rw [putX, if_pos ⟨h1, h2⟩, if_neg h3, if_neg h4]
      refine joinE ?_
      repeat' (first | with_reducible apply Stp.go | with_reducible refine imp fun _ => ?_ | (with_reducible refine hyp ?_ ?_; first | assumption | exact leftT_mem (by assumption)) | (with_reducible refine need ?_ ?_; first | trivial | omega | exact ⟨by assumption, by omega⟩ | (simp only [List.length_append, List.length_cons, List.length_nil, List.length_map, List.length_take, List.length_drop, List.length_replicate, List.length_set]; omega)) | (with_reducible refine fact ?_ ?_; first | trivial | exact ⟨rfl, rfl⟩ | kernel_rfl) | with_reducible refine choT (by assumption) ?_ | with_reducible refine choF (by assumption) ?_ | with_reducible refine choF' (by assumption) ?_ | (with_reducible refine altT ?_ ?_; first | omega | (simp only [List.length_append, List.length_cons, List.length_nil, List.length_map, List.length_take, List.length_drop, List.length_replicate, List.length_set]; omega)) | with_reducible refine altF ?_ | with_reducible refine all fun _ => ?_ | with_reducible refine both ?_ ?_ | (with_reducible refine choT ?_ ?_; omega) | (with_reducible refine choF ?_ ?_; omega) | with_reducible refine cho (fun _ => ?_) (fun _ => ?_))
      all_goals
        rename_i v'
        refine meet v' hx ?_
        have e1 : l.length + 1 = (l.take (placeN l e.key) ++ e :: l.drop (placeN l e.key)).length := by simp; omega
        rw [insL_new h3, e1]
        exact Sub.perm (List.Perm.swap _ _ _) _
    · rename_i h1
      have hx : putX l s e = 1 := by rw [putX, if_neg (fun h => h1 h.1)]
      exact ⟨_, _, _, rfl, Sub.refl _ _, v, by rw [hx]; rfl, (putErr (by rw [hx]; decide)).symm⟩
  · intro v' h0
    repeat' (first | with_reducible apply Stp.go | with_reducible refine imp fun _ => ?_ | (with_reducible refine hyp ?_ ?_; first | assumption | exact leftT_mem (by assumption)) | (with_reducible refine need ?_ ?_; first | trivial | omega | exact ⟨by assumption, by omega⟩ | (simp only [List.length_append, List.length_cons, List.length_nil, List.length_map, List.length_take, List.length_drop, List.length_replicate, List.length_set]; omega)) | (with_reducible refine fact ?_ ?_; first | trivial | exact ⟨rfl, rfl⟩ | kernel_rfl) | with_reducible refine choT (by assumption) ?_ | with_reducible refine choF (by assumption) ?_ | with_reducible refine choF' (by assumption) ?_ | (with_reducible refine altT ?_ ?_; first | omega | (simp only [List.length_append, List.length_cons, List.length_nil, List.length_map, List.length_take, List.length_drop, List.length_replicate, List.length_set]; omega)) | with_reducible refine altF ?_ | with_reducible refine all fun _ => ?_ | with_reducible refine both ?_ ?_ | (with_reducible refine choT ?_ ?_; omega) | (with_reducible refine choF ?_ ?_; omega) | with_reducible refine cho (fun _ => ?_) (fun _ => ?_))
    exact ⟨_, _, _, rfl, Sub.refl _ _, v', by rw [h0]; rfl, (putOk h0).symm⟩
instance {b : Nat} {σ rest : Store} {v : Value} {l : List En} {s : Int} {c : List UInt8} {e : En} [h : MemAt b σ v l s c rest] [hc : Len32 c] : EC Go.Proofs.Try.prog 11 [ptrAt b 0, e.av] σ (Rises l ∧ l.length ≤ 1000000) Value (fun _ => I .i64 (putX l s e : Nat)) (fun v' => memS b v' (putL l s e) (putS l s e) (putC l s c e) ++ rest) := ⟨fun hl => ((mem_Put_ok b v l s c e hl.1 hl.2).part h.perm).mono fun x σ' ⟨σ1, e0, v', e1, e2⟩ => ⟨v', e1, by rw [e0, e2]⟩⟩
end Go.Ab

/- Layer 10's law texts: what must be in any case; an entry cut. -/
set_option linter.unusedVariables false
set_option linter.unusedSimpArgs false
namespace Go.Ab
theorem run_ptr_nil {P : Program} {t t' : TypeId} (h : P.underlying t = some (.pointer t')) (k : Nat) (a : Addr) (w : World) : (Op.equalIn (k + 1) t (.pointer (some a)) (.pointer none)).run P w = .ok false w := by
  simp [Op.equalIn, run_underlying h]
class PtrT (P : Program) (t : TypeId) : Prop where
  h : ∃ t', P.underlying t = some (.pointer t')
instance : PtrT Go.Proofs.Try.prog 23 := ⟨⟨58, by kernel_rfl⟩⟩
instance ptrNil {P : Program} {t : TypeId} {b o : Nat} {K : AV → Prop} [h : PtrT P t] : Stp (Do (aBin P .eql t (ptrAt b o) (.val (.pointer none))) K) (K (.val (.bool false))) := ⟨fun hK => ⟨_, by
  obtain ⟨t', ht⟩ := h.h
  refine (aBin_val fun xo yo w => ?_).2 rfl
  have e1 := run_ptr_nil ht 9999 ⟨b, o, none⟩ w
  cases xo <;> cases yo <;> simp [eqGuard, binOp, Op.equal, Op.maxDepth, e1, Op.eqGuardIn, run_underlying ht], hK⟩⟩
/-- What is true of a mem. -/
def memI (l : List En) (s : Int) : Prop := Rises l ∧ (∀ x ∈ l, x.seq ≤ s) ∧ l.length ≤ 64
theorem memI0 (s : Int) : memI [] s := ⟨List.Pairwise.nil, by simp, by simp⟩
theorem memI.need {l : List En} {s : Int} (h : memI l s) : Rises l ∧ l.length ≤ 1000000 := ⟨h.1, by have := h.2.2; omega⟩
theorem insL_put {l : List En} {s : Int} {e : En} (h : memI l s) (hs : ¬ e.seq ≤ s) : insL l e = putE e l := by
  rw [putE_place h.1, insL]
  split
  · rename_i hk
    have h1 := (place_lt h.1 hk).1
    have h2 : l.getD (placeN l e.key) default ∈ l := by rw [List.getD_eq_getElem?_getD, List.getElem?_eq_getElem h1]; exact List.getElem_mem _
    have h3 := h.2.1 _ h2
    rw [if_pos (by omega)]
  · rfl
theorem putX_ok {l : List En} {s : Int} {e : En} (h : putX l s e = 0) : right e = true ∧ ¬ e.seq ≤ s ∧ (hasK l e.key = true ∨ ¬ l.length = 64) := by
  unfold putX at h
  split at h
  · rename_i h1
    refine ⟨h1.1, h1.2, ?_⟩
    split at h
    · rename_i h2; exact .inl h2
    · split at h
      · cases h
      · rename_i h3; exact .inr h3
  · cases h
theorem putL_put {l : List En} {s : Int} {e : En} (h : memI l s) (hx : putX l s e = 0) : putL l s e = putE e l := by rw [putL, if_pos hx, insL_put h (putX_ok hx).2.1]
theorem putL_err {l : List En} {s : Int} {e : En} (hx : ¬ putX l s e = 0) : putL l s e = l := by rw [putL, if_neg hx]
theorem putS_ok {l : List En} {s : Int} {e : En} (hx : putX l s e = 0) : putS l s e = e.seq := by rw [putS, if_pos hx]
theorem putS_err {l : List En} {s : Int} {e : En} (hx : ¬ putX l s e = 0) : putS l s e = s := by rw [putS, if_neg hx]
theorem putI {l : List En} {s : Int} {e : En} (h : memI l s) : memI (putL l s e) (putS l s e) := by
  by_cases hx : putX l s e = 0
  · obtain ⟨h1, h2, h3⟩ := putX_ok hx
    rw [putL_put h hx, putS_ok hx]
    refine ⟨putE_rises h.1, fun x hx => ?_, ?_⟩
    · rcases putE_key hx with rfl | hx
      · exact Int.le_refl _
      · have := h.2.1 x hx; omega
    · rw [← insL_put h h2]
      have h4 := h.2.2
      rcases h3 with h3 | h3
      · rw [insL_old h3, List.length_set]; exact h4
      · by_cases hk : hasK l e.key = true
        · rw [insL_old hk, List.length_set]; exact h4
        · rw [insL_new hk]
          have := placeN_le l e.key
          simp
          omega
  · rw [putL_err hx, putS_err hx]; exact h
section memI
variable {b : Nat} {σ rest : Store} {v : Value} {l : List En} {s : Int} {c lo hi k : List UInt8} {e : En} [h : MemAt b σ v l s c rest]
instance (priority := 1100) getM : EC Go.Proofs.Try.prog 22 [ptrAt b 0, S k] σ (memI l s) Unit (fun _ => .tuple [(keyV l k).av, B (hasK l k)]) (fun _ => σ) := ⟨fun hl => EC.ct hl.need⟩
instance (priority := 1100) rangeM : EC Go.Proofs.Try.prog 19 [ptrAt b 0, S lo, S hi] σ (memI l s) Value (fun v' => .own v' (rangeL l lo hi).length) (fun v' => .row v' EnT_ 4 ((rangeL l lo hi).map En.av) 0 :: σ) := ⟨fun hl => EC.ct hl.need⟩
instance (priority := 1100) allM : EC Go.Proofs.Try.prog 25 [ptrAt b 0] σ (memI l s) Value (fun v' => .own v' l.length) (fun v' => .row v' EnT_ 4 (l.map En.av) 0 :: σ) := ⟨fun hl => EC.ct hl.need⟩
instance (priority := 1100) putM [hc : Len32 c] : EC Go.Proofs.Try.prog 11 [ptrAt b 0, e.av] σ (memI l s) Value (fun _ => I .i64 (putX l s e : Nat)) (fun v' => memS b v' (putL l s e) (putS l s e) (putC l s c e) ++ rest) := ⟨fun hl => EC.ct hl.need⟩
end memI
section masks
variable {P : Program} {t : TypeId} {x : Int} {K : AV → Prop}
end masks
def law10_cut.mark : Mark := ⟨fun t => false, fun t => false, fun t => false, fun t => false, fun t => false⟩
def law10_cut.ann : Ann := ⟨fun n => [], fun n => none, fun n => none⟩
/-- 'marlstone/marlstonelaw10.cut' -/
def law10_cut.sh (a0 : AV) (σ : Store) (Q : AEnd → Store → Prop) : Prop :=
  aNewVar 29 (a0 : AV).cells σ fun t1 σ =>
  aNewVar 29 [.val (.string ⟨#[]⟩), .val (.string ⟨#[]⟩), .val (.bool false), .val (.int .i64 0)] σ fun t2 σ_1 =>
  Do (aFieldAddr 0 1 t1) fun t3 =>
  Do (loadA false 1 t3 σ_1) fun t4 =>
  Do (aFieldAddr 0 1 t1) fun t5 =>
  Do (loadA false 1 t5 σ_1) fun t6 =>
  Do (aBuiltin Go.Proofs.Try.prog .len #[9] [t6]) fun t7 =>
  Do (aBuiltin Go.Proofs.Try.prog .min #[3, 3] [t7, (.val (.int .i64 130))]) fun t8 =>
  Do (aSlice .string 1 t4 none (some t8) none) fun t9 =>
  Do (aFieldAddr 0 1 t1) fun t10 =>
  storeA 1 t10 t9 σ_1 fun u σ_2 =>
  Do (aFieldAddr 1 1 t1) fun t11 =>
  Do (loadA false 1 t11 σ_2) fun t12 =>
  Do (aFieldAddr 1 1 t1) fun t13 =>
  Do (loadA false 1 t13 σ_2) fun t14 =>
  Do (aBuiltin Go.Proofs.Try.prog .len #[9] [t14]) fun t15 =>
  Do (aBuiltin Go.Proofs.Try.prog .min #[3, 3] [t15, (.val (.int .i64 1030))]) fun t16 =>
  Do (aSlice .string 1 t12 none (some t16) none) fun t17 =>
  Do (aFieldAddr 1 1 t1) fun t18 =>
  storeA 1 t18 t17 σ_2 fun u_1 σ_3 =>
  Do (loadA true 4 t1 σ_3) fun t19 =>
  storeA 4 t2 t19 σ_3 fun u_2 σ_4 =>
  Do (loadA true 4 t2 σ_4) fun r2 => Q (.ret r2) σ_4
theorem law10_cut.eq (a0 : AV) (σ : Store) (Q : AEnd → Store → Prop) : vc (semOf Go.Proofs.Try.prog law10_cut.mark) Go.Proofs.Try.f16.ntmps law10_cut.ann (bodyOf Go.Proofs.Try.f16) (endK [.cell 2 true 4] Q) (argFr [a0]) σ = law10_cut.sh a0 σ Q := by kernel_rfl
theorem law10_cut.go {a0 : AV} {σ : Store} {Q : AEnd → Store → Prop} (h : law10_cut.sh a0 σ Q) : ACalls Go.Proofs.Try.prog 16 [a0] σ Q :=
  acalls_of_eq [.cell 2 true 4] Go.Proofs.Try.func16 (by kernel_rfl) (by kernel_rfl) (by kernel_rfl) (by kernel_rfl) (law10_cut.eq a0 σ Q) h
def law10_shown.mark : Mark := ⟨fun t => false, fun t => false, fun t => false, fun t => false, fun t => false⟩
def law10_shown.ann : Ann := ⟨fun n => [], fun n => none, fun n => none⟩
/-- 'marlstone/marlstonelaw10.shown' -/
def law10_shown.sh (σ : Store) (Q : AEnd → Store → Prop) : Prop :=
  aCall Go.Proofs.Try.prog 10 [] σ (fun t4 σ =>
  Do (aBin Go.Proofs.Try.prog .eql 23 t4 (.val (.pointer none))) fun t6 =>
  aCond t6
    (Q (.ret (.val (.bool false))) σ)
    (Do (aLit [.val (.string ⟨#[]⟩), .val (.string ⟨#[]⟩), .val (.bool false), .val (.int .i64 0)] [(0, 1), (1, 1), (2, 1), (3, 1)] [(0, (.val (.string ⟨#[97]⟩))), (3, (.val (.int .i64 1)))]) fun t8 =>
  aCall Go.Proofs.Try.prog 11 [t4, t8] σ (fun t9 σ_1 =>
  Do (aBin Go.Proofs.Try.prog .eql 25 t9 (.val (.int .i64 0))) fun t10 =>
  Do (aGuard t10 true (aIs t4)) fun t12 =>
  Do (aGuard t10 true (aLit [.val (.string ⟨#[]⟩), .val (.string ⟨#[]⟩), .val (.bool false), .val (.int .i64 0)] [(0, 1), (1, 1), (2, 1), (3, 1)] [(0, (.val (.string ⟨#[98]⟩))), (3, (.val (.int .i64 2)))])) fun t13 =>
  GEff t10 true (aCall Go.Proofs.Try.prog 11 [t12, t13] σ_1 (fun t14 σ_2 =>
    Do (aGuard t10 true (aBin Go.Proofs.Try.prog .eql 25 t14 (.val (.int .i64 0)))) fun t15 =>
  Do (aPick t10 t15 (.val (.bool false))) fun t16 =>
  Do (aGuard t16 true (aIs t4)) fun t18 =>
  Do (aGuard t16 true (aLit [.val (.string ⟨#[]⟩), .val (.string ⟨#[]⟩), .val (.bool false), .val (.int .i64 0)] [(0, 1), (1, 1), (2, 1), (3, 1)] [(0, (.val (.string ⟨#[97]⟩))), (3, (.val (.int .i64 3)))])) fun t19 =>
  GEff t16 true (aCall Go.Proofs.Try.prog 11 [t18, t19] σ_2 (fun t20 σ_3 =>
    Do (aGuard t16 true (aBin Go.Proofs.Try.prog .eql 25 t20 (.val (.int .i64 0)))) fun t21 =>
  Do (aPick t16 t21 (.val (.bool false))) fun t22 =>
  Do (aGuard t22 true (aIs t4)) fun t24 =>
  Do (aGuard t22 true (aLit [.val (.string ⟨#[]⟩), .val (.string ⟨#[]⟩), .val (.bool false), .val (.int .i64 0)] [(0, 1), (1, 1), (2, 1), (3, 1)] [(0, (.val (.string ⟨#[99]⟩))), (3, (.val (.int .i64 3)))])) fun t25 =>
  GEff t22 true (aCall Go.Proofs.Try.prog 11 [t24, t25] σ_3 (fun t26 σ_4 =>
    Do (aGuard t22 true (aBin Go.Proofs.Try.prog .eql 25 t26 (.val (.int .i64 1)))) fun t27 =>
  Do (aPick t22 t27 (.val (.bool false))) fun t28 =>
  aCall Go.Proofs.Try.prog 25 [t4] σ_4 (fun t30 σ_5 =>
  Do (aGuard t28 true (aIs t30)) fun t33 =>
  Do (aGuard t28 true (aBuiltin Go.Proofs.Try.prog .len #[39] [t33])) fun t34 =>
  Do (aGuard t28 true (aBin Go.Proofs.Try.prog .eql 3 t34 (.val (.int .i64 2)))) fun t35 =>
  Do (aPick t28 t35 (.val (.bool false))) fun t36 =>
  Do (aGuard t36 true (aIs t30)) fun t38 =>
  Do (aGuard t36 true (aIndexAddr .slice 4 t38 (.val (.int .i64 0)))) fun t39 =>
  Do (aGuard t36 true (aFieldAddr 3 1 t39)) fun t40 =>
  Do (aGuard t36 true (loadA false 1 t40 σ_5)) fun t41 =>
  Do (aGuard t36 true (aBin Go.Proofs.Try.prog .eql 3 t41 (.val (.int .i64 3)))) fun t42 =>
  Do (aPick t36 t42 (.val (.bool false))) fun t43 =>
  Do (aGuard t43 true (aIs t30)) fun t45 =>
  Do (aGuard t43 true (aIndexAddr .slice 4 t45 (.val (.int .i64 1)))) fun t46 =>
  Do (aGuard t43 true (aFieldAddr 3 1 t46)) fun t47 =>
  Do (aGuard t43 true (loadA false 1 t47 σ_5)) fun t48 =>
  Do (aGuard t43 true (aBin Go.Proofs.Try.prog .eql 3 t48 (.val (.int .i64 2)))) fun t49 =>
  Do (aPick t43 t49 (.val (.bool false))) fun t50 =>
  Do (aGuard t50 true (aIs t4)) fun t52 =>
  GEff t50 true (aCall Go.Proofs.Try.prog 14 [t52] σ_5 (fun t53 σ_6 =>
    Do (aGuard t50 true (aBin Go.Proofs.Try.prog .eql 3 t53 (.val (.int .i64 3)))) fun t54 =>
  Do (aPick t50 t54 (.val (.bool false))) fun t55 =>
  Do (aGuard t55 true (aIs t4)) fun t57 =>
  GEff t55 true (aCall Go.Proofs.Try.prog 12 [t57] σ_6 (fun t58 σ_7 =>
    Do (aGuard t55 true (aBin Go.Proofs.Try.prog .eql 3 t58 (.val (.int .i64 2)))) fun t59 =>
  Do (aPick t55 t59 (.val (.bool false))) fun t60 =>
  Q (.ret t60) σ_7) (fun e σ_8 => Q (.pan e) σ_8))
  (Do (aGuard t55 true (aBin Go.Proofs.Try.prog .eql 3 (.val Go.undef) (.val (.int .i64 2)))) fun t59_1 =>
  Do (aPick t55 t59_1 (.val (.bool false))) fun t60_1 =>
  Q (.ret t60_1) σ_6)) (fun e_1 σ_9 => Q (.pan e_1) σ_9))
  (Do (aGuard t50 true (aBin Go.Proofs.Try.prog .eql 3 (.val Go.undef) (.val (.int .i64 3)))) fun t54_1 =>
  Do (aPick t50 t54_1 (.val (.bool false))) fun t55_1 =>
  Do (aGuard t55_1 true (aIs t4)) fun t57_1 =>
  GEff t55_1 true (aCall Go.Proofs.Try.prog 12 [t57_1] σ_5 (fun t58_1 σ_10 =>
    Do (aGuard t55_1 true (aBin Go.Proofs.Try.prog .eql 3 t58_1 (.val (.int .i64 2)))) fun t59_2 =>
  Do (aPick t55_1 t59_2 (.val (.bool false))) fun t60_2 =>
  Q (.ret t60_2) σ_10) (fun e_2 σ_11 => Q (.pan e_2) σ_11))
  (Do (aGuard t55_1 true (aBin Go.Proofs.Try.prog .eql 3 (.val Go.undef) (.val (.int .i64 2)))) fun t59_3 =>
  Do (aPick t55_1 t59_3 (.val (.bool false))) fun t60_3 =>
  Q (.ret t60_3) σ_5))) (fun e_3 σ_12 => Q (.pan e_3) σ_12)) (fun e_4 σ_13 => Q (.pan e_4) σ_13))
  (Do (aGuard t22 true (aBin Go.Proofs.Try.prog .eql 25 (.val Go.undef) (.val (.int .i64 1)))) fun t27_1 =>
  Do (aPick t22 t27_1 (.val (.bool false))) fun t28_1 =>
  aCall Go.Proofs.Try.prog 25 [t4] σ_3 (fun t30_1 σ_14 =>
  Do (aGuard t28_1 true (aIs t30_1)) fun t33_1 =>
  Do (aGuard t28_1 true (aBuiltin Go.Proofs.Try.prog .len #[39] [t33_1])) fun t34_1 =>
  Do (aGuard t28_1 true (aBin Go.Proofs.Try.prog .eql 3 t34_1 (.val (.int .i64 2)))) fun t35_1 =>
  Do (aPick t28_1 t35_1 (.val (.bool false))) fun t36_1 =>
  Do (aGuard t36_1 true (aIs t30_1)) fun t38_1 =>
  Do (aGuard t36_1 true (aIndexAddr .slice 4 t38_1 (.val (.int .i64 0)))) fun t39_1 =>
  Do (aGuard t36_1 true (aFieldAddr 3 1 t39_1)) fun t40_1 =>
  Do (aGuard t36_1 true (loadA false 1 t40_1 σ_14)) fun t41_1 =>
  Do (aGuard t36_1 true (aBin Go.Proofs.Try.prog .eql 3 t41_1 (.val (.int .i64 3)))) fun t42_1 =>
  Do (aPick t36_1 t42_1 (.val (.bool false))) fun t43_1 =>
  Do (aGuard t43_1 true (aIs t30_1)) fun t45_1 =>
  Do (aGuard t43_1 true (aIndexAddr .slice 4 t45_1 (.val (.int .i64 1)))) fun t46_1 =>
  Do (aGuard t43_1 true (aFieldAddr 3 1 t46_1)) fun t47_1 =>
  Do (aGuard t43_1 true (loadA false 1 t47_1 σ_14)) fun t48_1 =>
  Do (aGuard t43_1 true (aBin Go.Proofs.Try.prog .eql 3 t48_1 (.val (.int .i64 2)))) fun t49_1 =>
  Do (aPick t43_1 t49_1 (.val (.bool false))) fun t50_1 =>
  Do (aGuard t50_1 true (aIs t4)) fun t52_1 =>
  GEff t50_1 true (aCall Go.Proofs.Try.prog 14 [t52_1] σ_14 (fun t53_1 σ_15 =>
    Do (aGuard t50_1 true (aBin Go.Proofs.Try.prog .eql 3 t53_1 (.val (.int .i64 3)))) fun t54_2 =>
  Do (aPick t50_1 t54_2 (.val (.bool false))) fun t55_2 =>
  Do (aGuard t55_2 true (aIs t4)) fun t57_2 =>
  GEff t55_2 true (aCall Go.Proofs.Try.prog 12 [t57_2] σ_15 (fun t58_2 σ_16 =>
    Do (aGuard t55_2 true (aBin Go.Proofs.Try.prog .eql 3 t58_2 (.val (.int .i64 2)))) fun t59_4 =>
  Do (aPick t55_2 t59_4 (.val (.bool false))) fun t60_4 =>
  Q (.ret t60_4) σ_16) (fun e_5 σ_17 => Q (.pan e_5) σ_17))
  (Do (aGuard t55_2 true (aBin Go.Proofs.Try.prog .eql 3 (.val Go.undef) (.val (.int .i64 2)))) fun t59_5 =>
  Do (aPick t55_2 t59_5 (.val (.bool false))) fun t60_5 =>
  Q (.ret t60_5) σ_15)) (fun e_6 σ_18 => Q (.pan e_6) σ_18))
  (Do (aGuard t50_1 true (aBin Go.Proofs.Try.prog .eql 3 (.val Go.undef) (.val (.int .i64 3)))) fun t54_3 =>
  Do (aPick t50_1 t54_3 (.val (.bool false))) fun t55_3 =>
  Do (aGuard t55_3 true (aIs t4)) fun t57_3 =>
  GEff t55_3 true (aCall Go.Proofs.Try.prog 12 [t57_3] σ_14 (fun t58_3 σ_19 =>
    Do (aGuard t55_3 true (aBin Go.Proofs.Try.prog .eql 3 t58_3 (.val (.int .i64 2)))) fun t59_6 =>
  Do (aPick t55_3 t59_6 (.val (.bool false))) fun t60_6 =>
  Q (.ret t60_6) σ_19) (fun e_7 σ_20 => Q (.pan e_7) σ_20))
  (Do (aGuard t55_3 true (aBin Go.Proofs.Try.prog .eql 3 (.val Go.undef) (.val (.int .i64 2)))) fun t59_7 =>
  Do (aPick t55_3 t59_7 (.val (.bool false))) fun t60_7 =>
  Q (.ret t60_7) σ_14))) (fun e_8 σ_21 => Q (.pan e_8) σ_21))) (fun e_9 σ_22 => Q (.pan e_9) σ_22))
  (Do (aGuard t16 true (aBin Go.Proofs.Try.prog .eql 25 (.val Go.undef) (.val (.int .i64 0)))) fun t21_1 =>
  Do (aPick t16 t21_1 (.val (.bool false))) fun t22_1 =>
  Do (aGuard t22_1 true (aIs t4)) fun t24_1 =>
  Do (aGuard t22_1 true (aLit [.val (.string ⟨#[]⟩), .val (.string ⟨#[]⟩), .val (.bool false), .val (.int .i64 0)] [(0, 1), (1, 1), (2, 1), (3, 1)] [(0, (.val (.string ⟨#[99]⟩))), (3, (.val (.int .i64 3)))])) fun t25_1 =>
  GEff t22_1 true (aCall Go.Proofs.Try.prog 11 [t24_1, t25_1] σ_2 (fun t26_1 σ_23 =>
    Do (aGuard t22_1 true (aBin Go.Proofs.Try.prog .eql 25 t26_1 (.val (.int .i64 1)))) fun t27_2 =>
  Do (aPick t22_1 t27_2 (.val (.bool false))) fun t28_2 =>
  aCall Go.Proofs.Try.prog 25 [t4] σ_23 (fun t30_2 σ_24 =>
  Do (aGuard t28_2 true (aIs t30_2)) fun t33_2 =>
  Do (aGuard t28_2 true (aBuiltin Go.Proofs.Try.prog .len #[39] [t33_2])) fun t34_2 =>
  Do (aGuard t28_2 true (aBin Go.Proofs.Try.prog .eql 3 t34_2 (.val (.int .i64 2)))) fun t35_2 =>
  Do (aPick t28_2 t35_2 (.val (.bool false))) fun t36_2 =>
  Do (aGuard t36_2 true (aIs t30_2)) fun t38_2 =>
  Do (aGuard t36_2 true (aIndexAddr .slice 4 t38_2 (.val (.int .i64 0)))) fun t39_2 =>
  Do (aGuard t36_2 true (aFieldAddr 3 1 t39_2)) fun t40_2 =>
  Do (aGuard t36_2 true (loadA false 1 t40_2 σ_24)) fun t41_2 =>
  Do (aGuard t36_2 true (aBin Go.Proofs.Try.prog .eql 3 t41_2 (.val (.int .i64 3)))) fun t42_2 =>
  Do (aPick t36_2 t42_2 (.val (.bool false))) fun t43_2 =>
  Do (aGuard t43_2 true (aIs t30_2)) fun t45_2 =>
  Do (aGuard t43_2 true (aIndexAddr .slice 4 t45_2 (.val (.int .i64 1)))) fun t46_2 =>
  Do (aGuard t43_2 true (aFieldAddr 3 1 t46_2)) fun t47_2 =>
  Do (aGuard t43_2 true (loadA false 1 t47_2 σ_24)) fun t48_2 =>
  Do (aGuard t43_2 true (aBin Go.Proofs.Try.prog .eql 3 t48_2 (.val (.int .i64 2)))) fun t49_2 =>
  Do (aPick t43_2 t49_2 (.val (.bool false))) fun t50_2 =>
  Do (aGuard t50_2 true (aIs t4)) fun t52_2 =>
  GEff t50_2 true (aCall Go.Proofs.Try.prog 14 [t52_2] σ_24 (fun t53_2 σ_25 =>
    Do (aGuard t50_2 true (aBin Go.Proofs.Try.prog .eql 3 t53_2 (.val (.int .i64 3)))) fun t54_4 =>
  Do (aPick t50_2 t54_4 (.val (.bool false))) fun t55_4 =>
  Do (aGuard t55_4 true (aIs t4)) fun t57_4 =>
  GEff t55_4 true (aCall Go.Proofs.Try.prog 12 [t57_4] σ_25 (fun t58_4 σ_26 =>
    Do (aGuard t55_4 true (aBin Go.Proofs.Try.prog .eql 3 t58_4 (.val (.int .i64 2)))) fun t59_8 =>
  Do (aPick t55_4 t59_8 (.val (.bool false))) fun t60_8 =>
  Q (.ret t60_8) σ_26) (fun e_10 σ_27 => Q (.pan e_10) σ_27))
  (Do (aGuard t55_4 true (aBin Go.Proofs.Try.prog .eql 3 (.val Go.undef) (.val (.int .i64 2)))) fun t59_9 =>
  Do (aPick t55_4 t59_9 (.val (.bool false))) fun t60_9 =>
  Q (.ret t60_9) σ_25)) (fun e_11 σ_28 => Q (.pan e_11) σ_28))
  (Do (aGuard t50_2 true (aBin Go.Proofs.Try.prog .eql 3 (.val Go.undef) (.val (.int .i64 3)))) fun t54_5 =>
  Do (aPick t50_2 t54_5 (.val (.bool false))) fun t55_5 =>
  Do (aGuard t55_5 true (aIs t4)) fun t57_5 =>
  GEff t55_5 true (aCall Go.Proofs.Try.prog 12 [t57_5] σ_24 (fun t58_5 σ_29 =>
    Do (aGuard t55_5 true (aBin Go.Proofs.Try.prog .eql 3 t58_5 (.val (.int .i64 2)))) fun t59_10 =>
  Do (aPick t55_5 t59_10 (.val (.bool false))) fun t60_10 =>
  Q (.ret t60_10) σ_29) (fun e_12 σ_30 => Q (.pan e_12) σ_30))
  (Do (aGuard t55_5 true (aBin Go.Proofs.Try.prog .eql 3 (.val Go.undef) (.val (.int .i64 2)))) fun t59_11 =>
  Do (aPick t55_5 t59_11 (.val (.bool false))) fun t60_11 =>
  Q (.ret t60_11) σ_24))) (fun e_13 σ_31 => Q (.pan e_13) σ_31)) (fun e_14 σ_32 => Q (.pan e_14) σ_32))
  (Do (aGuard t22_1 true (aBin Go.Proofs.Try.prog .eql 25 (.val Go.undef) (.val (.int .i64 1)))) fun t27_3 =>
  Do (aPick t22_1 t27_3 (.val (.bool false))) fun t28_3 =>
  aCall Go.Proofs.Try.prog 25 [t4] σ_2 (fun t30_3 σ_33 =>
  Do (aGuard t28_3 true (aIs t30_3)) fun t33_3 =>
  Do (aGuard t28_3 true (aBuiltin Go.Proofs.Try.prog .len #[39] [t33_3])) fun t34_3 =>
  Do (aGuard t28_3 true (aBin Go.Proofs.Try.prog .eql 3 t34_3 (.val (.int .i64 2)))) fun t35_3 =>
  Do (aPick t28_3 t35_3 (.val (.bool false))) fun t36_3 =>
  Do (aGuard t36_3 true (aIs t30_3)) fun t38_3 =>
  Do (aGuard t36_3 true (aIndexAddr .slice 4 t38_3 (.val (.int .i64 0)))) fun t39_3 =>
  Do (aGuard t36_3 true (aFieldAddr 3 1 t39_3)) fun t40_3 =>
  Do (aGuard t36_3 true (loadA false 1 t40_3 σ_33)) fun t41_3 =>
  Do (aGuard t36_3 true (aBin Go.Proofs.Try.prog .eql 3 t41_3 (.val (.int .i64 3)))) fun t42_3 =>
  Do (aPick t36_3 t42_3 (.val (.bool false))) fun t43_3 =>
  Do (aGuard t43_3 true (aIs t30_3)) fun t45_3 =>
  Do (aGuard t43_3 true (aIndexAddr .slice 4 t45_3 (.val (.int .i64 1)))) fun t46_3 =>
  Do (aGuard t43_3 true (aFieldAddr 3 1 t46_3)) fun t47_3 =>
  Do (aGuard t43_3 true (loadA false 1 t47_3 σ_33)) fun t48_3 =>
  Do (aGuard t43_3 true (aBin Go.Proofs.Try.prog .eql 3 t48_3 (.val (.int .i64 2)))) fun t49_3 =>
  Do (aPick t43_3 t49_3 (.val (.bool false))) fun t50_3 =>
  Do (aGuard t50_3 true (aIs t4)) fun t52_3 =>
  GEff t50_3 true (aCall Go.Proofs.Try.prog 14 [t52_3] σ_33 (fun t53_3 σ_34 =>
    Do (aGuard t50_3 true (aBin Go.Proofs.Try.prog .eql 3 t53_3 (.val (.int .i64 3)))) fun t54_6 =>
  Do (aPick t50_3 t54_6 (.val (.bool false))) fun t55_6 =>
  Do (aGuard t55_6 true (aIs t4)) fun t57_6 =>
  GEff t55_6 true (aCall Go.Proofs.Try.prog 12 [t57_6] σ_34 (fun t58_6 σ_35 =>
    Do (aGuard t55_6 true (aBin Go.Proofs.Try.prog .eql 3 t58_6 (.val (.int .i64 2)))) fun t59_12 =>
  Do (aPick t55_6 t59_12 (.val (.bool false))) fun t60_12 =>
  Q (.ret t60_12) σ_35) (fun e_15 σ_36 => Q (.pan e_15) σ_36))
  (Do (aGuard t55_6 true (aBin Go.Proofs.Try.prog .eql 3 (.val Go.undef) (.val (.int .i64 2)))) fun t59_13 =>
  Do (aPick t55_6 t59_13 (.val (.bool false))) fun t60_13 =>
  Q (.ret t60_13) σ_34)) (fun e_16 σ_37 => Q (.pan e_16) σ_37))
  (Do (aGuard t50_3 true (aBin Go.Proofs.Try.prog .eql 3 (.val Go.undef) (.val (.int .i64 3)))) fun t54_7 =>
  Do (aPick t50_3 t54_7 (.val (.bool false))) fun t55_7 =>
  Do (aGuard t55_7 true (aIs t4)) fun t57_7 =>
  GEff t55_7 true (aCall Go.Proofs.Try.prog 12 [t57_7] σ_33 (fun t58_7 σ_38 =>
    Do (aGuard t55_7 true (aBin Go.Proofs.Try.prog .eql 3 t58_7 (.val (.int .i64 2)))) fun t59_14 =>
  Do (aPick t55_7 t59_14 (.val (.bool false))) fun t60_14 =>
  Q (.ret t60_14) σ_38) (fun e_17 σ_39 => Q (.pan e_17) σ_39))
  (Do (aGuard t55_7 true (aBin Go.Proofs.Try.prog .eql 3 (.val Go.undef) (.val (.int .i64 2)))) fun t59_15 =>
  Do (aPick t55_7 t59_15 (.val (.bool false))) fun t60_15 =>
  Q (.ret t60_15) σ_33))) (fun e_18 σ_40 => Q (.pan e_18) σ_40)))) (fun e_19 σ_41 => Q (.pan e_19) σ_41))
  (Do (aGuard t10 true (aBin Go.Proofs.Try.prog .eql 25 (.val Go.undef) (.val (.int .i64 0)))) fun t15_1 =>
  Do (aPick t10 t15_1 (.val (.bool false))) fun t16_1 =>
  Do (aGuard t16_1 true (aIs t4)) fun t18_1 =>
  Do (aGuard t16_1 true (aLit [.val (.string ⟨#[]⟩), .val (.string ⟨#[]⟩), .val (.bool false), .val (.int .i64 0)] [(0, 1), (1, 1), (2, 1), (3, 1)] [(0, (.val (.string ⟨#[97]⟩))), (3, (.val (.int .i64 3)))])) fun t19_1 =>
  GEff t16_1 true (aCall Go.Proofs.Try.prog 11 [t18_1, t19_1] σ_1 (fun t20_1 σ_42 =>
    Do (aGuard t16_1 true (aBin Go.Proofs.Try.prog .eql 25 t20_1 (.val (.int .i64 0)))) fun t21_2 =>
  Do (aPick t16_1 t21_2 (.val (.bool false))) fun t22_2 =>
  Do (aGuard t22_2 true (aIs t4)) fun t24_2 =>
  Do (aGuard t22_2 true (aLit [.val (.string ⟨#[]⟩), .val (.string ⟨#[]⟩), .val (.bool false), .val (.int .i64 0)] [(0, 1), (1, 1), (2, 1), (3, 1)] [(0, (.val (.string ⟨#[99]⟩))), (3, (.val (.int .i64 3)))])) fun t25_2 =>
  GEff t22_2 true (aCall Go.Proofs.Try.prog 11 [t24_2, t25_2] σ_42 (fun t26_2 σ_43 =>
    Do (aGuard t22_2 true (aBin Go.Proofs.Try.prog .eql 25 t26_2 (.val (.int .i64 1)))) fun t27_4 =>
  Do (aPick t22_2 t27_4 (.val (.bool false))) fun t28_4 =>
  aCall Go.Proofs.Try.prog 25 [t4] σ_43 (fun t30_4 σ_44 =>
  Do (aGuard t28_4 true (aIs t30_4)) fun t33_4 =>
  Do (aGuard t28_4 true (aBuiltin Go.Proofs.Try.prog .len #[39] [t33_4])) fun t34_4 =>
  Do (aGuard t28_4 true (aBin Go.Proofs.Try.prog .eql 3 t34_4 (.val (.int .i64 2)))) fun t35_4 =>
  Do (aPick t28_4 t35_4 (.val (.bool false))) fun t36_4 =>
  Do (aGuard t36_4 true (aIs t30_4)) fun t38_4 =>
  Do (aGuard t36_4 true (aIndexAddr .slice 4 t38_4 (.val (.int .i64 0)))) fun t39_4 =>
  Do (aGuard t36_4 true (aFieldAddr 3 1 t39_4)) fun t40_4 =>
  Do (aGuard t36_4 true (loadA false 1 t40_4 σ_44)) fun t41_4 =>
  Do (aGuard t36_4 true (aBin Go.Proofs.Try.prog .eql 3 t41_4 (.val (.int .i64 3)))) fun t42_4 =>
  Do (aPick t36_4 t42_4 (.val (.bool false))) fun t43_4 =>
  Do (aGuard t43_4 true (aIs t30_4)) fun t45_4 =>
  Do (aGuard t43_4 true (aIndexAddr .slice 4 t45_4 (.val (.int .i64 1)))) fun t46_4 =>
  Do (aGuard t43_4 true (aFieldAddr 3 1 t46_4)) fun t47_4 =>
  Do (aGuard t43_4 true (loadA false 1 t47_4 σ_44)) fun t48_4 =>
  Do (aGuard t43_4 true (aBin Go.Proofs.Try.prog .eql 3 t48_4 (.val (.int .i64 2)))) fun t49_4 =>
  Do (aPick t43_4 t49_4 (.val (.bool false))) fun t50_4 =>
  Do (aGuard t50_4 true (aIs t4)) fun t52_4 =>
  GEff t50_4 true (aCall Go.Proofs.Try.prog 14 [t52_4] σ_44 (fun t53_4 σ_45 =>
    Do (aGuard t50_4 true (aBin Go.Proofs.Try.prog .eql 3 t53_4 (.val (.int .i64 3)))) fun t54_8 =>
  Do (aPick t50_4 t54_8 (.val (.bool false))) fun t55_8 =>
  Do (aGuard t55_8 true (aIs t4)) fun t57_8 =>
  GEff t55_8 true (aCall Go.Proofs.Try.prog 12 [t57_8] σ_45 (fun t58_8 σ_46 =>
    Do (aGuard t55_8 true (aBin Go.Proofs.Try.prog .eql 3 t58_8 (.val (.int .i64 2)))) fun t59_16 =>
  Do (aPick t55_8 t59_16 (.val (.bool false))) fun t60_16 =>
  Q (.ret t60_16) σ_46) (fun e_20 σ_47 => Q (.pan e_20) σ_47))
  (Do (aGuard t55_8 true (aBin Go.Proofs.Try.prog .eql 3 (.val Go.undef) (.val (.int .i64 2)))) fun t59_17 =>
  Do (aPick t55_8 t59_17 (.val (.bool false))) fun t60_17 =>
  Q (.ret t60_17) σ_45)) (fun e_21 σ_48 => Q (.pan e_21) σ_48))
  (Do (aGuard t50_4 true (aBin Go.Proofs.Try.prog .eql 3 (.val Go.undef) (.val (.int .i64 3)))) fun t54_9 =>
  Do (aPick t50_4 t54_9 (.val (.bool false))) fun t55_9 =>
  Do (aGuard t55_9 true (aIs t4)) fun t57_9 =>
  GEff t55_9 true (aCall Go.Proofs.Try.prog 12 [t57_9] σ_44 (fun t58_9 σ_49 =>
    Do (aGuard t55_9 true (aBin Go.Proofs.Try.prog .eql 3 t58_9 (.val (.int .i64 2)))) fun t59_18 =>
  Do (aPick t55_9 t59_18 (.val (.bool false))) fun t60_18 =>
  Q (.ret t60_18) σ_49) (fun e_22 σ_50 => Q (.pan e_22) σ_50))
  (Do (aGuard t55_9 true (aBin Go.Proofs.Try.prog .eql 3 (.val Go.undef) (.val (.int .i64 2)))) fun t59_19 =>
  Do (aPick t55_9 t59_19 (.val (.bool false))) fun t60_19 =>
  Q (.ret t60_19) σ_44))) (fun e_23 σ_51 => Q (.pan e_23) σ_51)) (fun e_24 σ_52 => Q (.pan e_24) σ_52))
  (Do (aGuard t22_2 true (aBin Go.Proofs.Try.prog .eql 25 (.val Go.undef) (.val (.int .i64 1)))) fun t27_5 =>
  Do (aPick t22_2 t27_5 (.val (.bool false))) fun t28_5 =>
  aCall Go.Proofs.Try.prog 25 [t4] σ_42 (fun t30_5 σ_53 =>
  Do (aGuard t28_5 true (aIs t30_5)) fun t33_5 =>
  Do (aGuard t28_5 true (aBuiltin Go.Proofs.Try.prog .len #[39] [t33_5])) fun t34_5 =>
  Do (aGuard t28_5 true (aBin Go.Proofs.Try.prog .eql 3 t34_5 (.val (.int .i64 2)))) fun t35_5 =>
  Do (aPick t28_5 t35_5 (.val (.bool false))) fun t36_5 =>
  Do (aGuard t36_5 true (aIs t30_5)) fun t38_5 =>
  Do (aGuard t36_5 true (aIndexAddr .slice 4 t38_5 (.val (.int .i64 0)))) fun t39_5 =>
  Do (aGuard t36_5 true (aFieldAddr 3 1 t39_5)) fun t40_5 =>
  Do (aGuard t36_5 true (loadA false 1 t40_5 σ_53)) fun t41_5 =>
  Do (aGuard t36_5 true (aBin Go.Proofs.Try.prog .eql 3 t41_5 (.val (.int .i64 3)))) fun t42_5 =>
  Do (aPick t36_5 t42_5 (.val (.bool false))) fun t43_5 =>
  Do (aGuard t43_5 true (aIs t30_5)) fun t45_5 =>
  Do (aGuard t43_5 true (aIndexAddr .slice 4 t45_5 (.val (.int .i64 1)))) fun t46_5 =>
  Do (aGuard t43_5 true (aFieldAddr 3 1 t46_5)) fun t47_5 =>
  Do (aGuard t43_5 true (loadA false 1 t47_5 σ_53)) fun t48_5 =>
  Do (aGuard t43_5 true (aBin Go.Proofs.Try.prog .eql 3 t48_5 (.val (.int .i64 2)))) fun t49_5 =>
  Do (aPick t43_5 t49_5 (.val (.bool false))) fun t50_5 =>
  Do (aGuard t50_5 true (aIs t4)) fun t52_5 =>
  GEff t50_5 true (aCall Go.Proofs.Try.prog 14 [t52_5] σ_53 (fun t53_5 σ_54 =>
    Do (aGuard t50_5 true (aBin Go.Proofs.Try.prog .eql 3 t53_5 (.val (.int .i64 3)))) fun t54_10 =>
  Do (aPick t50_5 t54_10 (.val (.bool false))) fun t55_10 =>
  Do (aGuard t55_10 true (aIs t4)) fun t57_10 =>
  GEff t55_10 true (aCall Go.Proofs.Try.prog 12 [t57_10] σ_54 (fun t58_10 σ_55 =>
    Do (aGuard t55_10 true (aBin Go.Proofs.Try.prog .eql 3 t58_10 (.val (.int .i64 2)))) fun t59_20 =>
  Do (aPick t55_10 t59_20 (.val (.bool false))) fun t60_20 =>
  Q (.ret t60_20) σ_55) (fun e_25 σ_56 => Q (.pan e_25) σ_56))
  (Do (aGuard t55_10 true (aBin Go.Proofs.Try.prog .eql 3 (.val Go.undef) (.val (.int .i64 2)))) fun t59_21 =>
  Do (aPick t55_10 t59_21 (.val (.bool false))) fun t60_21 =>
  Q (.ret t60_21) σ_54)) (fun e_26 σ_57 => Q (.pan e_26) σ_57))
  (Do (aGuard t50_5 true (aBin Go.Proofs.Try.prog .eql 3 (.val Go.undef) (.val (.int .i64 3)))) fun t54_11 =>
  Do (aPick t50_5 t54_11 (.val (.bool false))) fun t55_11 =>
  Do (aGuard t55_11 true (aIs t4)) fun t57_11 =>
  GEff t55_11 true (aCall Go.Proofs.Try.prog 12 [t57_11] σ_53 (fun t58_11 σ_58 =>
    Do (aGuard t55_11 true (aBin Go.Proofs.Try.prog .eql 3 t58_11 (.val (.int .i64 2)))) fun t59_22 =>
  Do (aPick t55_11 t59_22 (.val (.bool false))) fun t60_22 =>
  Q (.ret t60_22) σ_58) (fun e_27 σ_59 => Q (.pan e_27) σ_59))
  (Do (aGuard t55_11 true (aBin Go.Proofs.Try.prog .eql 3 (.val Go.undef) (.val (.int .i64 2)))) fun t59_23 =>
  Do (aPick t55_11 t59_23 (.val (.bool false))) fun t60_23 =>
  Q (.ret t60_23) σ_53))) (fun e_28 σ_60 => Q (.pan e_28) σ_60))) (fun e_29 σ_61 => Q (.pan e_29) σ_61))
  (Do (aGuard t16_1 true (aBin Go.Proofs.Try.prog .eql 25 (.val Go.undef) (.val (.int .i64 0)))) fun t21_3 =>
  Do (aPick t16_1 t21_3 (.val (.bool false))) fun t22_3 =>
  Do (aGuard t22_3 true (aIs t4)) fun t24_3 =>
  Do (aGuard t22_3 true (aLit [.val (.string ⟨#[]⟩), .val (.string ⟨#[]⟩), .val (.bool false), .val (.int .i64 0)] [(0, 1), (1, 1), (2, 1), (3, 1)] [(0, (.val (.string ⟨#[99]⟩))), (3, (.val (.int .i64 3)))])) fun t25_3 =>
  GEff t22_3 true (aCall Go.Proofs.Try.prog 11 [t24_3, t25_3] σ_1 (fun t26_3 σ_62 =>
    Do (aGuard t22_3 true (aBin Go.Proofs.Try.prog .eql 25 t26_3 (.val (.int .i64 1)))) fun t27_6 =>
  Do (aPick t22_3 t27_6 (.val (.bool false))) fun t28_6 =>
  aCall Go.Proofs.Try.prog 25 [t4] σ_62 (fun t30_6 σ_63 =>
  Do (aGuard t28_6 true (aIs t30_6)) fun t33_6 =>
  Do (aGuard t28_6 true (aBuiltin Go.Proofs.Try.prog .len #[39] [t33_6])) fun t34_6 =>
  Do (aGuard t28_6 true (aBin Go.Proofs.Try.prog .eql 3 t34_6 (.val (.int .i64 2)))) fun t35_6 =>
  Do (aPick t28_6 t35_6 (.val (.bool false))) fun t36_6 =>
  Do (aGuard t36_6 true (aIs t30_6)) fun t38_6 =>
  Do (aGuard t36_6 true (aIndexAddr .slice 4 t38_6 (.val (.int .i64 0)))) fun t39_6 =>
  Do (aGuard t36_6 true (aFieldAddr 3 1 t39_6)) fun t40_6 =>
  Do (aGuard t36_6 true (loadA false 1 t40_6 σ_63)) fun t41_6 =>
  Do (aGuard t36_6 true (aBin Go.Proofs.Try.prog .eql 3 t41_6 (.val (.int .i64 3)))) fun t42_6 =>
  Do (aPick t36_6 t42_6 (.val (.bool false))) fun t43_6 =>
  Do (aGuard t43_6 true (aIs t30_6)) fun t45_6 =>
  Do (aGuard t43_6 true (aIndexAddr .slice 4 t45_6 (.val (.int .i64 1)))) fun t46_6 =>
  Do (aGuard t43_6 true (aFieldAddr 3 1 t46_6)) fun t47_6 =>
  Do (aGuard t43_6 true (loadA false 1 t47_6 σ_63)) fun t48_6 =>
  Do (aGuard t43_6 true (aBin Go.Proofs.Try.prog .eql 3 t48_6 (.val (.int .i64 2)))) fun t49_6 =>
  Do (aPick t43_6 t49_6 (.val (.bool false))) fun t50_6 =>
  Do (aGuard t50_6 true (aIs t4)) fun t52_6 =>
  GEff t50_6 true (aCall Go.Proofs.Try.prog 14 [t52_6] σ_63 (fun t53_6 σ_64 =>
    Do (aGuard t50_6 true (aBin Go.Proofs.Try.prog .eql 3 t53_6 (.val (.int .i64 3)))) fun t54_12 =>
  Do (aPick t50_6 t54_12 (.val (.bool false))) fun t55_12 =>
  Do (aGuard t55_12 true (aIs t4)) fun t57_12 =>
  GEff t55_12 true (aCall Go.Proofs.Try.prog 12 [t57_12] σ_64 (fun t58_12 σ_65 =>
    Do (aGuard t55_12 true (aBin Go.Proofs.Try.prog .eql 3 t58_12 (.val (.int .i64 2)))) fun t59_24 =>
  Do (aPick t55_12 t59_24 (.val (.bool false))) fun t60_24 =>
  Q (.ret t60_24) σ_65) (fun e_30 σ_66 => Q (.pan e_30) σ_66))
  (Do (aGuard t55_12 true (aBin Go.Proofs.Try.prog .eql 3 (.val Go.undef) (.val (.int .i64 2)))) fun t59_25 =>
  Do (aPick t55_12 t59_25 (.val (.bool false))) fun t60_25 =>
  Q (.ret t60_25) σ_64)) (fun e_31 σ_67 => Q (.pan e_31) σ_67))
  (Do (aGuard t50_6 true (aBin Go.Proofs.Try.prog .eql 3 (.val Go.undef) (.val (.int .i64 3)))) fun t54_13 =>
  Do (aPick t50_6 t54_13 (.val (.bool false))) fun t55_13 =>
  Do (aGuard t55_13 true (aIs t4)) fun t57_13 =>
  GEff t55_13 true (aCall Go.Proofs.Try.prog 12 [t57_13] σ_63 (fun t58_13 σ_68 =>
    Do (aGuard t55_13 true (aBin Go.Proofs.Try.prog .eql 3 t58_13 (.val (.int .i64 2)))) fun t59_26 =>
  Do (aPick t55_13 t59_26 (.val (.bool false))) fun t60_26 =>
  Q (.ret t60_26) σ_68) (fun e_32 σ_69 => Q (.pan e_32) σ_69))
  (Do (aGuard t55_13 true (aBin Go.Proofs.Try.prog .eql 3 (.val Go.undef) (.val (.int .i64 2)))) fun t59_27 =>
  Do (aPick t55_13 t59_27 (.val (.bool false))) fun t60_27 =>
  Q (.ret t60_27) σ_63))) (fun e_33 σ_70 => Q (.pan e_33) σ_70)) (fun e_34 σ_71 => Q (.pan e_34) σ_71))
  (Do (aGuard t22_3 true (aBin Go.Proofs.Try.prog .eql 25 (.val Go.undef) (.val (.int .i64 1)))) fun t27_7 =>
  Do (aPick t22_3 t27_7 (.val (.bool false))) fun t28_7 =>
  aCall Go.Proofs.Try.prog 25 [t4] σ_1 (fun t30_7 σ_72 =>
  Do (aGuard t28_7 true (aIs t30_7)) fun t33_7 =>
  Do (aGuard t28_7 true (aBuiltin Go.Proofs.Try.prog .len #[39] [t33_7])) fun t34_7 =>
  Do (aGuard t28_7 true (aBin Go.Proofs.Try.prog .eql 3 t34_7 (.val (.int .i64 2)))) fun t35_7 =>
  Do (aPick t28_7 t35_7 (.val (.bool false))) fun t36_7 =>
  Do (aGuard t36_7 true (aIs t30_7)) fun t38_7 =>
  Do (aGuard t36_7 true (aIndexAddr .slice 4 t38_7 (.val (.int .i64 0)))) fun t39_7 =>
  Do (aGuard t36_7 true (aFieldAddr 3 1 t39_7)) fun t40_7 =>
  Do (aGuard t36_7 true (loadA false 1 t40_7 σ_72)) fun t41_7 =>
  Do (aGuard t36_7 true (aBin Go.Proofs.Try.prog .eql 3 t41_7 (.val (.int .i64 3)))) fun t42_7 =>
  Do (aPick t36_7 t42_7 (.val (.bool false))) fun t43_7 =>
  Do (aGuard t43_7 true (aIs t30_7)) fun t45_7 =>
  Do (aGuard t43_7 true (aIndexAddr .slice 4 t45_7 (.val (.int .i64 1)))) fun t46_7 =>
  Do (aGuard t43_7 true (aFieldAddr 3 1 t46_7)) fun t47_7 =>
  Do (aGuard t43_7 true (loadA false 1 t47_7 σ_72)) fun t48_7 =>
  Do (aGuard t43_7 true (aBin Go.Proofs.Try.prog .eql 3 t48_7 (.val (.int .i64 2)))) fun t49_7 =>
  Do (aPick t43_7 t49_7 (.val (.bool false))) fun t50_7 =>
  Do (aGuard t50_7 true (aIs t4)) fun t52_7 =>
  GEff t50_7 true (aCall Go.Proofs.Try.prog 14 [t52_7] σ_72 (fun t53_7 σ_73 =>
    Do (aGuard t50_7 true (aBin Go.Proofs.Try.prog .eql 3 t53_7 (.val (.int .i64 3)))) fun t54_14 =>
  Do (aPick t50_7 t54_14 (.val (.bool false))) fun t55_14 =>
  Do (aGuard t55_14 true (aIs t4)) fun t57_14 =>
  GEff t55_14 true (aCall Go.Proofs.Try.prog 12 [t57_14] σ_73 (fun t58_14 σ_74 =>
    Do (aGuard t55_14 true (aBin Go.Proofs.Try.prog .eql 3 t58_14 (.val (.int .i64 2)))) fun t59_28 =>
  Do (aPick t55_14 t59_28 (.val (.bool false))) fun t60_28 =>
  Q (.ret t60_28) σ_74) (fun e_35 σ_75 => Q (.pan e_35) σ_75))
  (Do (aGuard t55_14 true (aBin Go.Proofs.Try.prog .eql 3 (.val Go.undef) (.val (.int .i64 2)))) fun t59_29 =>
  Do (aPick t55_14 t59_29 (.val (.bool false))) fun t60_29 =>
  Q (.ret t60_29) σ_73)) (fun e_36 σ_76 => Q (.pan e_36) σ_76))
  (Do (aGuard t50_7 true (aBin Go.Proofs.Try.prog .eql 3 (.val Go.undef) (.val (.int .i64 3)))) fun t54_15 =>
  Do (aPick t50_7 t54_15 (.val (.bool false))) fun t55_15 =>
  Do (aGuard t55_15 true (aIs t4)) fun t57_15 =>
  GEff t55_15 true (aCall Go.Proofs.Try.prog 12 [t57_15] σ_72 (fun t58_15 σ_77 =>
    Do (aGuard t55_15 true (aBin Go.Proofs.Try.prog .eql 3 t58_15 (.val (.int .i64 2)))) fun t59_30 =>
  Do (aPick t55_15 t59_30 (.val (.bool false))) fun t60_30 =>
  Q (.ret t60_30) σ_77) (fun e_37 σ_78 => Q (.pan e_37) σ_78))
  (Do (aGuard t55_15 true (aBin Go.Proofs.Try.prog .eql 3 (.val Go.undef) (.val (.int .i64 2)))) fun t59_31 =>
  Do (aPick t55_15 t59_31 (.val (.bool false))) fun t60_31 =>
  Q (.ret t60_31) σ_72))) (fun e_38 σ_79 => Q (.pan e_38) σ_79))))) (fun e_39 σ_80 => Q (.pan e_39) σ_80))) (fun e_40 σ_81 => Q (.pan e_40) σ_81)
theorem law10_shown.eq (σ : Store) (Q : AEnd → Store → Prop) : vc (semOf Go.Proofs.Try.prog law10_shown.mark) Go.Proofs.Try.f9.ntmps law10_shown.ann (bodyOf Go.Proofs.Try.f9) (endK [.tmp 0] Q) (argFr []) σ = law10_shown.sh  σ Q := by kernel_rfl
theorem law10_shown.go {σ : Store} {Q : AEnd → Store → Prop} (h : law10_shown.sh  σ Q) : ACalls Go.Proofs.Try.prog 9 [] σ Q :=
  acalls_of_eq [.tmp 0] Go.Proofs.Try.func9 (by kernel_rfl) (by kernel_rfl) (by kernel_rfl) (by kernel_rfl) (law10_shown.eq  σ Q) h
theorem cut10_ok (e : En) : aPure Go.Proofs.Try.prog 16 [e.av] (cutE 130 1030 e).av := by
  refine ACalls.fin (law10_cut.go ?_)
  unfold law10_cut.sh
  repeat' (first | with_reducible apply Stp.go | with_reducible refine imp fun _ => ?_ | (with_reducible refine hyp ?_ ?_; first | assumption | exact leftT_mem (by assumption)) | (with_reducible refine need ?_ ?_; first | trivial | omega | exact ⟨by assumption, by omega⟩ | (simp only [List.length_append, List.length_cons, List.length_nil, List.length_map, List.length_take, List.length_drop, List.length_replicate, List.length_set]; omega)) | (with_reducible refine fact ?_ ?_; first | trivial | exact ⟨rfl, rfl⟩ | kernel_rfl) | with_reducible refine choT (by assumption) ?_ | with_reducible refine choF (by assumption) ?_ | with_reducible refine choF' (by assumption) ?_ | (with_reducible refine altT ?_ ?_; first | omega | (simp only [List.length_append, List.length_cons, List.length_nil, List.length_map, List.length_take, List.length_drop, List.length_replicate, List.length_set]; omega)) | with_reducible refine altF ?_ | with_reducible refine all fun _ => ?_ | with_reducible refine both ?_ ?_ | (with_reducible refine choT ?_ ?_; omega) | (with_reducible refine choF ?_ ?_; omega) | with_reducible refine cho (fun _ => ?_) (fun _ => ?_))
  exact ⟨_, _, _, rfl, subS _, by rw [take_minN, take_minN]; rfl, rfl⟩
instance {e : En} : PC Go.Proofs.Try.prog 16 [e.av] True (cutE 130 1030 e).av := ⟨fun _ => PC.of (cut10_ok e)⟩
theorem shown10_ok : aPure Go.Proofs.Try.prog 9 [] (B true) := by
  refine ACalls.fin (law10_shown.go ?_)
  unfold law10_shown.sh
  have i0 := memI0 0
  have i1 := putI (e := ⟨[97], [], false, 1⟩) i0
  have i2 := putI (e := ⟨[98], [], false, 2⟩) i1
  have i3 := putI (e := ⟨[97], [], false, 3⟩) i2
  have i4 := putI (e := ⟨[99], [], false, 3⟩) i3
  have x1 : putX [] 0 ⟨[97], [], false, 1⟩ = 0 := by decide +kernel
  have x2 : putX (putL [] 0 ⟨[97], [], false, 1⟩) (putS [] 0 ⟨[97], [], false, 1⟩) ⟨[98], [], false, 2⟩ = 0 := by decide +kernel
  have x3 : putX (putL (putL [] 0 ⟨[97], [], false, 1⟩) (putS [] 0 ⟨[97], [], false, 1⟩) ⟨[98], [], false, 2⟩) (putS (putL [] 0 ⟨[97], [], false, 1⟩) (putS [] 0 ⟨[97], [], false, 1⟩) ⟨[98], [], false, 2⟩) ⟨[97], [], false, 3⟩ = 0 := by decide +kernel
  have x4 : putX (putL (putL (putL [] 0 ⟨[97], [], false, 1⟩) (putS [] 0 ⟨[97], [], false, 1⟩) ⟨[98], [], false, 2⟩) (putS (putL [] 0 ⟨[97], [], false, 1⟩) (putS [] 0 ⟨[97], [], false, 1⟩) ⟨[98], [], false, 2⟩) ⟨[97], [], false, 3⟩) (putS (putL (putL [] 0 ⟨[97], [], false, 1⟩) (putS [] 0 ⟨[97], [], false, 1⟩) ⟨[98], [], false, 2⟩) (putS (putL [] 0 ⟨[97], [], false, 1⟩) (putS [] 0 ⟨[97], [], false, 1⟩) ⟨[98], [], false, 2⟩) ⟨[97], [], false, 3⟩) ⟨[99], [], false, 3⟩ = 1 := by decide +kernel
  have y1 : (putL (putL (putL (putL [] 0 ⟨[97], [], false, 1⟩) (putS [] 0 ⟨[97], [], false, 1⟩) ⟨[98], [], false, 2⟩) (putS (putL [] 0 ⟨[97], [], false, 1⟩) (putS [] 0 ⟨[97], [], false, 1⟩) ⟨[98], [], false, 2⟩) ⟨[97], [], false, 3⟩) (putS (putL (putL [] 0 ⟨[97], [], false, 1⟩) (putS [] 0 ⟨[97], [], false, 1⟩) ⟨[98], [], false, 2⟩) (putS (putL [] 0 ⟨[97], [], false, 1⟩) (putS [] 0 ⟨[97], [], false, 1⟩) ⟨[98], [], false, 2⟩) ⟨[97], [], false, 3⟩) ⟨[99], [], false, 3⟩).length = 2 := by decide +kernel
  have y2 : ((putL (putL (putL (putL [] 0 ⟨[97], [], false, 1⟩) (putS [] 0 ⟨[97], [], false, 1⟩) ⟨[98], [], false, 2⟩) (putS (putL [] 0 ⟨[97], [], false, 1⟩) (putS [] 0 ⟨[97], [], false, 1⟩) ⟨[98], [], false, 2⟩) ⟨[97], [], false, 3⟩) (putS (putL (putL [] 0 ⟨[97], [], false, 1⟩) (putS [] 0 ⟨[97], [], false, 1⟩) ⟨[98], [], false, 2⟩) (putS (putL [] 0 ⟨[97], [], false, 1⟩) (putS [] 0 ⟨[97], [], false, 1⟩) ⟨[98], [], false, 2⟩) ⟨[97], [], false, 3⟩) ⟨[99], [], false, 3⟩).getD 0 default).seq = 3 := by decide +kernel
  have y3 : ((putL (putL (putL (putL [] 0 ⟨[97], [], false, 1⟩) (putS [] 0 ⟨[97], [], false, 1⟩) ⟨[98], [], false, 2⟩) (putS (putL [] 0 ⟨[97], [], false, 1⟩) (putS [] 0 ⟨[97], [], false, 1⟩) ⟨[98], [], false, 2⟩) ⟨[97], [], false, 3⟩) (putS (putL (putL [] 0 ⟨[97], [], false, 1⟩) (putS [] 0 ⟨[97], [], false, 1⟩) ⟨[98], [], false, 2⟩) (putS (putL [] 0 ⟨[97], [], false, 1⟩) (putS [] 0 ⟨[97], [], false, 1⟩) ⟨[98], [], false, 2⟩) ⟨[97], [], false, 3⟩) ⟨[99], [], false, 3⟩).getD 1 default).seq = 2 := by decide +kernel
  have y4 : putS (putL (putL (putL [] 0 ⟨[97], [], false, 1⟩) (putS [] 0 ⟨[97], [], false, 1⟩) ⟨[98], [], false, 2⟩) (putS (putL [] 0 ⟨[97], [], false, 1⟩) (putS [] 0 ⟨[97], [], false, 1⟩) ⟨[98], [], false, 2⟩) ⟨[97], [], false, 3⟩) (putS (putL (putL [] 0 ⟨[97], [], false, 1⟩) (putS [] 0 ⟨[97], [], false, 1⟩) ⟨[98], [], false, 2⟩) (putS (putL [] 0 ⟨[97], [], false, 1⟩) (putS [] 0 ⟨[97], [], false, 1⟩) ⟨[98], [], false, 2⟩) ⟨[97], [], false, 3⟩) ⟨[99], [], false, 3⟩ = 3 := by decide +kernel
  have ht : (true : Bool) = true := rfl
  repeat' (first | with_reducible apply Stp.go | with_reducible refine imp fun _ => ?_ | (with_reducible refine hyp ?_ ?_; first | assumption | exact leftT_mem (by assumption)) | (with_reducible refine need ?_ ?_; first | trivial | omega | exact ⟨by assumption, by omega⟩ | (simp only [List.length_append, List.length_cons, List.length_nil, List.length_map, List.length_take, List.length_drop, List.length_replicate, List.length_set]; omega)) | (with_reducible refine fact ?_ ?_; first | trivial | exact ⟨rfl, rfl⟩ | kernel_rfl) | with_reducible refine choT (by assumption) ?_ | with_reducible refine choF (by assumption) ?_ | with_reducible refine choF' (by assumption) ?_ | (with_reducible refine altT ?_ ?_; first | omega | (simp only [List.length_append, List.length_cons, List.length_nil, List.length_map, List.length_take, List.length_drop, List.length_replicate, List.length_set]; omega)) | with_reducible refine altF ?_ | with_reducible refine all fun _ => ?_ | with_reducible refine both ?_ ?_ | (with_reducible refine choT ?_ ?_; omega) | (with_reducible refine choF ?_ ?_; omega) | with_reducible refine cho (fun _ => ?_) (fun _ => ?_))
  refine ⟨_, _, _, rfl, Sub.app_nil _, ?_, rfl⟩
  rw [decide_eq_true y1]
instance : PC Go.Proofs.Try.prog 9 [] True (B true) := ⟨fun _ => PC.of shown10_ok⟩
end Go.Ab

/- A range of keys as what is left of all. No program in sight. -/
set_option linter.unusedVariables false
set_option linter.unusedSimpArgs false
namespace Go.Ab
/-- An entry lies in a range of keys. -/
def inR (lo hi : List UInt8) (x : En) : Bool := !lt x.key lo && (decide (hi = []) || lt x.key hi)
theorem mem_rangeL {l : List En} (hr : Rises l) {lo hi : List UInt8} {x : En} : x ∈ rangeL l lo hi ↔ x ∈ l ∧ inR lo hi x = true := by
  have hat : ∀ {i : Nat} {x : En}, l[i]? = some x → ∀ k, (lt x.key k = true ↔ i < placeN l k) := fun {i x} h k => by
    have hi : i < l.length := (List.getElem?_eq_some_iff.1 h).1
    have := place_at hr k hi
    rwa [List.getD_eq_getElem?_getD, h] at this
  have ht : ∀ {i : Nat} {x : En}, l[i]? = some x → ((decide (hi = []) || lt x.key hi) = true ↔ i < toN l hi) := fun {i x} h => by
    have hi' : i < l.length := (List.getElem?_eq_some_iff.1 h).1
    unfold toN
    by_cases h0 : hi = []
    · simp [h0, hi']
    · rw [if_neg h0, ← hat h]; simp [h0]
  unfold rangeL inR
  rw [List.mem_iff_getElem?, List.mem_iff_getElem?]
  constructor
  · rintro ⟨j, hj⟩
    rw [List.getElem?_take] at hj
    split at hj
    · rename_i hlt
      rw [List.getElem?_drop] at hj
      refine ⟨⟨_, hj⟩, ?_⟩
      have h1 : ¬ lt x.key lo = true := by rw [hat hj]; omega
      have h2 := (ht hj).2 (by omega)
      rw [Bool.and_eq_true]
      exact ⟨by simpa using h1, h2⟩
    · cases hj
  · rintro ⟨⟨i, hi'⟩, hc⟩
    rw [Bool.and_eq_true] at hc
    have h1 : ¬ i < placeN l lo := by rw [← hat hi']; simpa using hc.1
    have h2 := (ht hi').1 hc.2
    refine ⟨i - placeN l lo, ?_⟩
    rw [List.getElem?_take, if_pos (by omega), List.getElem?_drop, show placeN l lo + (i - placeN l lo) = i by omega]
    exact hi'
theorem rangeL_filter {l : List En} (hr : Rises l) (lo hi : List UInt8) : rangeL l lo hi = l.filter (inR lo hi) := by
  refine rises_ext ?_ (List.Pairwise.filter _ hr) fun x => by rw [mem_rangeL hr, List.mem_filter]
  exact (hr.sublist (List.drop_sublist _ _)).sublist (List.take_sublist _ _)
theorem filter_snoc {l : List En} {p : En → Bool} {i : Nat} (hi : i < l.length) : (l.take (i + 1)).filter p = (l.take i).filter p ++ (if p (l.getD i default) = true then [l.getD i default] else []) := by
  rw [take_succ_d hi, List.filter_append]
  congr 1
  by_cases h : p (l.getD i default) = true
  · rw [if_pos h, List.filter_cons_of_pos h]; rfl
  · rw [if_neg h, List.filter_cons_of_neg h]; rfl
end Go.Ab

/- The reference's fold. -/
set_option linter.unusedVariables false
set_option linter.unusedSimpArgs false
namespace Go.Ab
def ref03_Fold.mark : Mark := ⟨fun t => false, fun t => Nat.beq t 42, fun t => false, fun t => false, fun t => Nat.beq t 20⟩
def ref03_Fold.ann : Ann := ⟨fun n => bif Nat.beq n 3 then [0, 3, 4] else [], fun n => none, fun n => bif Nat.beq n 9 then some [0, 3, 4] else none⟩
/-- 'marlstone/marlstoneref03.Fold' -/
def ref03_Fold.sh (a0 : AV) (σ : Store) (Q : AEnd → Store → Prop) : Prop :=
  aLoop (fun go vs σ =>
    At vs 0 fun s0 => At vs 1 fun s3 => At vs 2 fun s4 => Do (aBuiltin Go.Proofs.Try.prog .len #[39] [s0]) fun t9 =>
    Do (aBin Go.Proofs.Try.prog .lss 3 s4 t9) fun t10 =>
    aCond t10
      (Do (aIndexAddr .slice 4 s0 s4) fun t17 =>
    Do (aFieldAddr 0 1 t17) fun t18 =>
    Do (loadA false 1 t18 σ) fun t19 =>
    Do (lookC Go.Proofs.Try.prog 36 [s3, t19] σ) fun t20 =>
    Do (aExt t20 0) fun t21 =>
    Do (aExt t20 1) fun t22 =>
    aCond t22
      (Do (aIndexAddr .slice 4 s0 s4) fun t26 =>
      Do (aFieldAddr 3 1 t26) fun t27 =>
      Do (loadA false 1 t27 σ) fun t28 =>
      Do (aIndexAddr .slice 4 s3 t21) fun t31 =>
      Do (aFieldAddr 3 1 t31) fun t32 =>
      Do (loadA false 1 t32 σ) fun t33 =>
      Do (aBin Go.Proofs.Try.prog .geq 3 t28 t33) fun t34 =>
      aCond t34
        (Do (aIndexAddr .slice 4 s0 s4) fun t39 =>
        Do (loadA true 4 t39 σ) fun t40 =>
        Do (aIndexAddr .slice 4 s3 t21) fun t41 =>
        storeA 4 t41 t40 σ fun u σ_1 =>
        Do (aBin Go.Proofs.Try.prog .add 3 s4 (.val (.int .i64 1))) fun t12 =>
    go [s0, s3, t12] σ_1)
        (Do (aBin Go.Proofs.Try.prog .add 3 s4 (.val (.int .i64 1))) fun t12_1 =>
    go [s0, s3, t12_1] σ))
      (aJoin (fun j =>
      Do (aSlice .slice 4 s3 none (some t21) none) fun t45 =>
      Do (aIndexAddr .slice 4 s0 s4) fun t49 =>
      Do (aSlice .slice 4 s3 (some t21) none none) fun t55 =>
      Both (aRowL 29 (mkE [.val (.string ⟨#[]⟩), .val (.string ⟨#[]⟩), .val (.bool false), .val (.int .i64 0)]) 4 0 [] σ fun t42 σ_3 =>
      Both (aAppend 29 4 48 t42 t45 σ_3 (subK fun t46 σ_4 =>
      Do (loadA true 4 t49 σ_4) fun t50 =>
      Do (aSlLit (mkE [.val (.string ⟨#[]⟩), .val (.string ⟨#[]⟩), .val (.bool false), .val (.int .i64 0)]) 4 1 [(0, t50)]) fun t51 =>
      aAppend 29 4 48 t46 t51 σ_4 (subK fun t52 σ_5 =>
      aAppend 29 4 48 t52 t55 σ_5 (subK fun t56 σ_6 =>
      j [s0, t56, s4] σ_6)))) (Do (loadA true 4 t49 σ_3) fun t50_1 =>
      Do (aSlLit (mkE [.val (.string ⟨#[]⟩), .val (.string ⟨#[]⟩), .val (.bool false), .val (.int .i64 0)]) 4 1 [(0, t50_1)]) fun t51_1 =>
      aAppend 29 4 48 t42 t45 σ_3 (subK fun t46_1 σ_7 =>
      aAppend 29 4 48 t46_1 t51_1 σ_7 (subK fun t52_1 σ_8 =>
      aAppend 29 4 48 t52_1 t55 σ_8 (subK fun t56_1 σ_9 =>
      j [s0, t56_1, s4] σ_9))))) (Do (loadA true 4 t49 σ) fun t50_2 =>
      Do (aSlLit (mkE [.val (.string ⟨#[]⟩), .val (.string ⟨#[]⟩), .val (.bool false), .val (.int .i64 0)]) 4 1 [(0, t50_2)]) fun t51_2 =>
      aRowL 29 (mkE [.val (.string ⟨#[]⟩), .val (.string ⟨#[]⟩), .val (.bool false), .val (.int .i64 0)]) 4 0 [] σ fun t42_1 σ_10 =>
      aAppend 29 4 48 t42_1 t45 σ_10 (subK fun t46_2 σ_11 =>
      aAppend 29 4 48 t46_2 t51_2 σ_11 (subK fun t52_2 σ_12 =>
      aAppend 29 4 48 t52_2 t55 σ_12 (subK fun t56_2 σ_13 =>
      j [s0, t56_2, s4] σ_13))))) fun vs_1 σ_2 =>
    At vs_1 0 fun s0_1 => At vs_1 1 fun s3_1 => At vs_1 2 fun s4_1 => Do (aBin Go.Proofs.Try.prog .add 3 s4_1 (.val (.int .i64 1))) fun t12_2 =>
    go [s0_1, s3_1, t12_2] σ_2))
      (Q (.ret s3) σ))
    [a0, (.val (.slice none 0 0)), (.val (.int .i64 0))] σ
theorem ref03_Fold.eq (a0 : AV) (σ : Store) (Q : AEnd → Store → Prop) : vc (semOf Go.Proofs.Try.prog ref03_Fold.mark) Go.Proofs.Try.f35.ntmps ref03_Fold.ann (bodyOf Go.Proofs.Try.f35) (endK [.tmp 2] Q) (argFr [a0]) σ = ref03_Fold.sh a0 σ Q := by kernel_rfl
theorem ref03_Fold.go {a0 : AV} {σ : Store} {Q : AEnd → Store → Prop} (h : ref03_Fold.sh a0 σ Q) : ACalls Go.Proofs.Try.prog 35 [a0] σ Q :=
  acalls_of_eq [.tmp 2] Go.Proofs.Try.func35 (by kernel_rfl) (by kernel_rfl) (by kernel_rfl) (by kernel_rfl) (ref03_Fold.eq a0 σ Q) h
theorem foldE_take_succ {l : List En} {i : Nat} (h : i < l.length) : foldE (l.take (i + 1)) = putE (l.getD i default) (foldE (l.take i)) := by rw [take_succ_d h, foldE_snoc]
theorem ref03_Fold_own (l : List En) (m : SM) (hl : l.length ≤ 1000000000) : ACalls Go.Proofs.Try.prog 35 [.lst 4 (l.map En.av) m] [] fun x τ => ∃ v, x = .ret (.own v (foldE l).length) ∧ τ = [.row v 29 4 ((foldE l).map En.av) 0] := by
  refine ACalls.fin (ref03_Fold.go ?_)
  unfold ref03_Fold.sh
  repeat' (first | with_reducible apply Stp.go | with_reducible refine imp fun _ => ?_ | (with_reducible refine hyp ?_ ?_; first | assumption | exact leftT_mem (by assumption)) | (with_reducible refine need ?_ ?_; first | trivial | omega | exact ⟨by assumption, by omega⟩ | (simp only [List.length_append, List.length_cons, List.length_nil, List.length_map, List.length_take, List.length_drop, List.length_replicate, List.length_set]; omega)) | (with_reducible refine fact ?_ ?_; first | trivial | exact ⟨rfl, rfl⟩ | kernel_rfl) | with_reducible refine choT (by assumption) ?_ | with_reducible refine choF (by assumption) ?_ | with_reducible refine choF' (by assumption) ?_ | (with_reducible refine altT ?_ ?_; first | omega | (simp only [List.length_append, List.length_cons, List.length_nil, List.length_map, List.length_take, List.length_drop, List.length_replicate, List.length_set]; omega)) | with_reducible refine altF ?_ | with_reducible refine all fun _ => ?_ | with_reducible refine both ?_ ?_ | (with_reducible refine choT ?_ ?_; omega) | (with_reducible refine choF ?_ ?_; omega) | with_reducible refine cho (fun _ => ?_) (fun _ => ?_))
  refine loopI (β := Nat × Value) (fun x => x.1 ≤ l.length) (fun x => [.lst 4 (l.map En.av) m, .own x.2 (foldE (l.take x.1)).length, I .i64 (x.1 : Nat)])
    (fun x => [.row x.2 29 4 ((foldE (l.take x.1)).map En.av) 0]) (fun x => l.length - x.1) (0, .slice none 0 0) (Nat.zero_le _) (Sub.nil_own 29 (by decide) _ [_] [_]) ?_
  rintro ⟨i, v⟩ hi
  dsimp only at hi ⊢
  have hfl := foldE_length (l.take i)
  have htl : (l.take i).length = i := by rw [List.length_take]; omega
  by_cases hlt : i < l.length
  · have hp := putE_place (e := l.getD i default) (foldE_rises (l.take i))
    have hq := place_lt (k := (l.getD i default).key) (foldE_rises (l.take i))
    have hle := placeN_le (foldE (l.take i)) (l.getD i default).key
    rw [← foldE_take_succ hlt] at hp
    repeat' (first | with_reducible apply Stp.go | with_reducible refine imp fun _ => ?_ | (with_reducible refine hyp ?_ ?_; first | assumption | exact leftT_mem (by assumption)) | (with_reducible refine need ?_ ?_; first | trivial | omega | exact ⟨by assumption, by omega⟩ | (simp only [List.length_append, List.length_cons, List.length_nil, List.length_map, List.length_take, List.length_drop, List.length_replicate, List.length_set]; omega)) | (with_reducible refine fact ?_ ?_; first | trivial | exact ⟨rfl, rfl⟩ | kernel_rfl) | with_reducible refine choT (by assumption) ?_ | with_reducible refine choF (by assumption) ?_ | with_reducible refine choF' (by assumption) ?_ | (with_reducible refine altT ?_ ?_; first | omega | (simp only [List.length_append, List.length_cons, List.length_nil, List.length_map, List.length_take, List.length_drop, List.length_replicate, List.length_set]; omega)) | with_reducible refine altF ?_ | with_reducible refine all fun _ => ?_ | with_reducible refine both ?_ ?_ | (with_reducible refine choT ?_ ?_; omega) | (with_reducible refine choF ?_ ?_; omega) | with_reducible refine cho (fun _ => ?_) (fun _ => ?_))
    · rename_i hk
      obtain ⟨hq1, hq2⟩ := hq hk
      rw [if_pos hk] at hp
      repeat' (first | with_reducible apply Stp.go | with_reducible refine imp fun _ => ?_ | (with_reducible refine hyp ?_ ?_; first | assumption | exact leftT_mem (by assumption)) | (with_reducible refine need ?_ ?_; first | trivial | omega | exact ⟨by assumption, by omega⟩ | (simp only [List.length_append, List.length_cons, List.length_nil, List.length_map, List.length_take, List.length_drop, List.length_replicate, List.length_set]; omega)) | (with_reducible refine fact ?_ ?_; first | trivial | exact ⟨rfl, rfl⟩ | kernel_rfl) | with_reducible refine choT (by assumption) ?_ | with_reducible refine choF (by assumption) ?_ | with_reducible refine choF' (by assumption) ?_ | (with_reducible refine altT ?_ ?_; first | omega | (simp only [List.length_append, List.length_cons, List.length_nil, List.length_map, List.length_take, List.length_drop, List.length_replicate, List.length_set]; omega)) | with_reducible refine altF ?_ | with_reducible refine all fun _ => ?_ | with_reducible refine both ?_ ?_ | (with_reducible refine choT ?_ ?_; omega) | (with_reducible refine choF ?_ ?_; omega) | with_reducible refine cho (fun _ => ?_) (fun _ => ?_))
      · rename_i hge
        rw [if_pos (by omega)] at hp
        refine again (i + 1, v) (by dsimp only; omega) (by dsimp only; omega) ?_
        dsimp only
        rw [hp, List.length_set]
        exact Sub.refl _ _
      · rename_i hge
        rw [if_neg (by omega)] at hp
        refine again (i + 1, v) (by dsimp only; omega) (by dsimp only; omega) ?_
        dsimp only
        rw [hp]
        exact Sub.refl _ _
    · rename_i hk
      rw [if_neg hk] at hp
      have hfin : (([] ++ ((foldE (l.take i)).drop 0).take (placeN (foldE (l.take i)) (l.getD i default).key)) ++ [l.getD i default]) ++ ((foldE (l.take i)).drop (placeN (foldE (l.take i)) (l.getD i default).key)).take ((foldE (l.take i)).length - placeN (foldE (l.take i)) (l.getD i default).key) = foldE (l.take (i + 1)) := by
        rw [hp, List.drop_zero, List.nil_append, List.append_assoc, ← List.length_drop, List.take_length, List.singleton_append]
      refine joinE ?_
      repeat' (first | with_reducible apply Stp.go | with_reducible refine imp fun _ => ?_ | (with_reducible refine hyp ?_ ?_; first | assumption | exact leftT_mem (by assumption)) | (with_reducible refine need ?_ ?_; first | trivial | omega | exact ⟨by assumption, by omega⟩ | (simp only [List.length_append, List.length_cons, List.length_nil, List.length_map, List.length_take, List.length_drop, List.length_replicate, List.length_set]; omega)) | (with_reducible refine fact ?_ ?_; first | trivial | exact ⟨rfl, rfl⟩ | kernel_rfl) | with_reducible refine choT (by assumption) ?_ | with_reducible refine choF (by assumption) ?_ | with_reducible refine choF' (by assumption) ?_ | (with_reducible refine altT ?_ ?_; first | omega | (simp only [List.length_append, List.length_cons, List.length_nil, List.length_map, List.length_take, List.length_drop, List.length_replicate, List.length_set]; omega)) | with_reducible refine altF ?_ | with_reducible refine all fun _ => ?_ | with_reducible refine both ?_ ?_ | (with_reducible refine choT ?_ ?_; omega) | (with_reducible refine choF ?_ ?_; omega) | with_reducible refine cho (fun _ => ?_) (fun _ => ?_))
      all_goals
        rename_i w
        refine again (i + 1, w) (by dsimp only; omega) (by dsimp only; omega) ?_
        dsimp only
        rw [hfin]
        exact subS _
  · have e : l.take i = l := List.take_of_length_le (by omega)
    rw [e]
    repeat' (first | with_reducible apply Stp.go | with_reducible refine imp fun _ => ?_ | (with_reducible refine hyp ?_ ?_; first | assumption | exact leftT_mem (by assumption)) | (with_reducible refine need ?_ ?_; first | trivial | omega | exact ⟨by assumption, by omega⟩ | (simp only [List.length_append, List.length_cons, List.length_nil, List.length_map, List.length_take, List.length_drop, List.length_replicate, List.length_set]; omega)) | (with_reducible refine fact ?_ ?_; first | trivial | exact ⟨rfl, rfl⟩ | kernel_rfl) | with_reducible refine choT (by assumption) ?_ | with_reducible refine choF (by assumption) ?_ | with_reducible refine choF' (by assumption) ?_ | (with_reducible refine altT ?_ ?_; first | omega | (simp only [List.length_append, List.length_cons, List.length_nil, List.length_map, List.length_take, List.length_drop, List.length_replicate, List.length_set]; omega)) | with_reducible refine altF ?_ | with_reducible refine all fun _ => ?_ | with_reducible refine both ?_ ?_ | (with_reducible refine choT ?_ ?_; omega) | (with_reducible refine choF ?_ ?_; omega) | with_reducible refine cho (fun _ => ?_) (fun _ => ?_))
    exact ⟨_, _, _, rfl, Sub.refl _ _, v, rfl, rfl⟩
theorem ref03_Fold_ok (l : List En) (m : SM) (hl : l.length ≤ 1000000000) : aPure Go.Proofs.Try.prog 35 [.lst 4 (l.map En.av) m] (.lst 4 ((foldE l).map En.av) .ro) :=
  ACalls.fin ((ref03_Fold_own l m hl).mono fun x τ ⟨v, e1, e2⟩ => ⟨_, _, _, e1, by rw [e2]; exact retOwn (Sub.refl _ _), rfl, rfl⟩)
instance ref03_FoldB {l : List En} {m : SM} : BC Go.Proofs.Try.prog 35 [.lst 4 (l.map En.av) m] (l.length ≤ 1000000000) (.lst 4 ((foldE l).map En.av) .ro) := ⟨fun hl => BC.of_own ((ref03_Fold_own l m hl).mono fun x τ ⟨v, e1, e2⟩ => ⟨.own v (foldE l).length, e1, by rw [e2]; exact inferInstance, fun R R' v h => own_indep h, fun σ => by rw [e2]; exact Sub.cons_own (σ1 := []) (σ2 := σ) (Sub.refl _ _)⟩)⟩
end Go.Ab
