/- slices.Insert at entries: behind the last one, in place, in a new row. -/
import Derived.Test.YtcpbjmhhhdoafaaSt13
import Derived.Test.YtcpbjmhhhdoafaaF1
import Derived.Lib.AppendZerosOnto
import Derived.Lib.Overlaps
set_option linter.unusedVariables false
set_option linter.unusedSimpArgs false
namespace Go.Ab
section raw
variable {P : Program}
/-- append(s[:i], make(..)..) without room. -/
theorem rawB_appendZ {t tn e : TypeId} {zs : List Value} {sz by_ : Nat} (hrow : rowOf P t = some (e, zs, sz, by_)) (htn : P.underlying tn = some (.int .i64)) {v : Value} {i m : Nat} {σ : Store} {l : List AV} {fl : Nat}
    (hm : Ent.row v e sz l fl ∈ σ) (hi : i < l.length) (h0 : 0 < m) (hcap : capV v < i + m) (ho : ∀ z ∈ zs, z.oneCell' = true) (hb : (i + m) * by_ ≤ 140737488355328) (hmx : i + m ≤ maxLen) {k : AV → Store → Prop}
    (hk : ∀ v', v'.ownBlock ≠ none → (∀ e ∈ σ, e.blk ≠ v'.ownBlock) → k (.own v' (i + m)) (.row v' e sz (l.take i ++ List.replicate m (mkE (zs.map .val))) 0 :: σ)) : rawB P .append #[t, tn] [.sub v sz 0 i, .val (.int .i64 ((m : Nat) : Int))] σ k := by
  intro R w xs hv hs ty cs
  obtain ⟨vs, hr, hone, hown, hz0, hsz, hc⟩ := row_cells hs hm
  obtain ⟨x, y, rfl⟩ : ∃ x y, xs = [x, y] := by
    match xs, hv.1 with
    | [x, y], _ => exact ⟨x, y, rfl⟩
  have hx := (hv.2 0 _ _ rfl rfl).sub_inv
  have hy := (hv.2 1 _ _ rfl rfl).val_inv
  subst hy
  obtain ⟨hu, inf, z, hi2, hiz, hzs, hlen, hsz2, hby, hpos⟩ := rowOf_run hrow
  rcases hown.2 with ⟨rfl, h00⟩ | ⟨g, cap, cur, rfl, _, hh, hle, hcm, hcs, htk⟩
  · omega
  simp only [capV] at hcap
  rcases hx with ⟨h1, _⟩ | ⟨g', n0, cap', p, h1, hle2, hp, rfl⟩
  · cases h1
  simp only [Value.slice.injEq, Option.some.injEq, Addr.mk.injEq, and_true, true_and] at h1
  obtain ⟨rfl, rfl, rfl⟩ := h1
  have hp' : p = ⟨g, 0, none⟩ := by rw [hp (by omega)]; simp
  subst hp'
  have hvl : vs.length = l.length * sz := hown.1
  have his : i * sz ≤ l.length * sz := Nat.mul_le_mul_right _ (by omega)
  have hold : (Builtin.firstCells inf.size i (.slice (some ⟨g, 0, none⟩) i (cap - 0))).run P w.drew = .ok (vs.take (i * sz)).toArray w.drew := by
    rw [hsz2]
    refine run_firstCells_some w.drew sz i ⟨g, 0, none⟩ i (cap - 0) (vs.take (i * sz)) (by rw [List.length_take, hvl]; omega) fun j u hj => ?_
    rw [List.getElem?_take] at hj
    split at hj
    · exact hc g _ cap rfl j u hj
    · cases hj
  have h48 : m * inf.bytes ≤ 281474976710656 := by
    have : m * by_ ≤ (i + m) * by_ := Nat.mul_le_mul_right _ (by omega)
    rw [hby]; omega
  have hrun := Lib.run_append_grow_zeros w t tn ty e inf z .i64 .i64 hu htn hi2 hiz (some ⟨g, 0, none⟩) i (cap - 0) (vs.take (i * sz)) hold m h0 (by rw [hsz2]; exact hz0) (by omega) (by simp only [maxLen] at hmx; omega) h48 (growslice_fits (by omega) (by rw [hby]; exact hb))
  have hge := grownCap_ge w (i + m) (cap - 0) e
  have hcm2 : grownCap w (i + m) (cap - 0) e ≤ maxLen := grownCap_le_maxLen w _ (cap - 0) e hmx
  generalize grownCap w (i + m) (cap - 0) e = G at hrun hge hcm2
  have hzt : z.cells = zs.toArray := by rw [← hzs]
  have hzc : ∀ n, Builtin.zeroCells z.cells n = ((List.replicate n zs).flatten).toArray := fun n => by
    rw [hzt]
    unfold Builtin.zeroCells
    rw [show zs.toArray.size = zs.length by simp]
    exact zero_cells zs n (by omega)
  have hmk := mkE_vals (zs := zs) ho
  have hlen3 : (l.take i ++ List.replicate m (mkE (zs.map .val))).length = i + m := by simp; omega
  have hfl : flat (l.take i ++ List.replicate m (mkE (zs.map .val))) = (flat l).take (i * sz) ++ ((List.replicate m zs).flatten).map .val := by
    rw [flat_append, flat_take hsz, flat_replicate, hmk]; simp [List.map_flatten]
  have hlz : ((List.replicate m zs).flatten).length = m * sz := by simp [hlen]
  have hl2 : (vs.take (i * sz) ++ (List.replicate m zs).flatten).length = (i + m) * sz := by rw [List.length_append, List.length_take, hlz, hvl, Nat.add_mul]; omega
  obtain ⟨g1, g2⟩ := st_newRow (R := R) (w' := w.drew.alloc (.cells ((vs.take (i * sz)).toArray ++ Builtin.zeroCells z.cells m ++ Builtin.zeroCells z.cells (G - (i + m))) e)) hs
    ⟨rfl, rfl, rfl, by simp, fun k hk _ => heap_alloc_old w.drew _ k hk⟩ (v := .slice (some ⟨w.heap.size, 0, none⟩) (i + m) G) (E := e) (sz := sz) (l := l.take i ++ List.replicate m (mkE (zs.map .val))) (vs := vs.take (i * sz) ++ (List.replicate m zs).flatten)
    ⟨by rw [hlen3]; exact hl2, .inr ⟨w.heap.size, G, _, by rw [hlen3], Nat.zero_le _, heap_alloc_new w.drew _, by rw [hlen3]; exact hge, hcm2, by
      have e1 : (i + m) * sz + (G - (i + m)) * sz = G * sz := by rw [← Nat.add_mul]; congr 1; omega
      rw [hzc, hzc]
      simp only [Array.size_append, List.size_toArray, List.length_flatten, List.map_replicate, List.sum_replicate_nat, hlen, List.length_take, hvl]
      rw [Nat.add_mul] at e1
      omega, by
      rw [hzc, hzc, hlen3, ← hl2]
      simp only [Array.toList_append]
      exact List.take_left⟩⟩ (by rw [hfl]; exact (hr.take _).append (VRs.ofVals R _)) (by
      intro v hv
      rcases List.mem_append.1 hv with hv | hv
      · exact hone v (List.mem_of_mem_take hv)
      · simp only [List.mem_flatten, List.mem_replicate] at hv; obtain ⟨q, ⟨_, hq⟩, hv2⟩ := hv; rw [hq] at hv2; exact ho v hv2) hz0 (by
      intro y hy
      rcases List.mem_append.1 hy with hy | hy
      · exact hsz y (List.mem_of_mem_take hy)
      · rw [(List.mem_replicate.1 hy).2, hmk]; simp [hlen]) (by rw [hlen3]; exact hmx) (by intro b hb; simp only [Value.ownBlock, Option.some.injEq] at hb; omega)
  refine ⟨_, _, _, R, _, ?_, hk (.slice (some ⟨w.heap.size, 0, none⟩) (i + m) G) (by simp [Value.ownBlock]) ?_, .own (by simpa [hlen3] using g1.rowV List.mem_cons_self), g1, g2⟩
  · simp only [builtin, Sem.run_bind]
    rw [show ([Value.slice (some ⟨g, 0, none⟩) i (cap - 0), Value.int .i64 ((m : Nat) : Int)] : List Value).toArray = #[Value.slice (some ⟨g, 0, none⟩) i (cap - 0), Value.int .i64 ((m : Nat) : Int)] from rfl, hrun]
    rfl
  · intro e he hb
    have := (hs.ents e he).lt (b := w.heap.size) hb
    omega
/-- The value of a row with another length. -/
def reV : Value → Nat → Value
  | .slice a _ c, n => .slice a n c
  | v, _ => v
/-- Memory of two rows of one's own, held against one another. -/
theorem rawC_overlaps {f : FuncId} {fn : Func} {tS tR e : TypeId} (hf : P.funcs[f]? = some fn) (hname : (fn.name == "runtime.NumGoroutine") = false) (hb : fn.body.isNone = true) (hn : Extern.findNext fn = none)
    (he : Extern.find fn = some (Extern.SlicesOverlaps.overlaps #[tS, tS] #[tR])) {sz : Nat} (hsz : szOf P tS = some (e, sz)) {y v : Value} {Ey E : TypeId} {sy s fy fl a n m q : Nat} {ly l : List AV} (h0 : 0 < ly.length) (h1 : 0 < l.length) (hc : a < capV v) {k : AV → Store → Prop}
    (hk : k (.val (.bool false)) [.row y Ey sy ly fy, .row v E s l fl]) : rawC P f [.own y m, .sub (reV v q) s a n] [.row y Ey sy ly fy, .row v E s l fl] k := by
  intro R w xs hv hs
  obtain ⟨x, z, rfl⟩ : ∃ x z, xs = [x, z] := by
    match xs, hv.1 with
    | [x, z], _ => exact ⟨x, z, rfl⟩
  obtain ⟨hy, _⟩ := (hv.2 0 _ _ rfl rfl).own_inv
  subst hy
  have hz := (hv.2 1 _ _ rfl rfl).sub_inv
  obtain ⟨vs, hr, hone, hown, hz0, hsz', hcc⟩ := row_cells hs (v := x) (E := Ey) (sz := sy) (l := ly) (fl := fy) List.mem_cons_self
  obtain ⟨ws, hr2, hone2, hown2, hz2, hsz2, hcc2⟩ := row_cells hs (v := v) (E := E) (sz := s) (l := l) (fl := fl) (List.mem_cons_of_mem _ List.mem_cons_self)
  rcases hown.2 with ⟨rfl, h00⟩ | ⟨g, cap, cur, rfl, _, hh, hle, hcm, hcs, htk⟩
  · omega
  rcases hown2.2 with ⟨rfl, h00⟩ | ⟨g2, cap2, cur2, rfl, _, hh2, hle2, hcm2, hcs2, htk2⟩
  · omega
  simp only [capV] at hc
  simp only [reV] at hz
  rcases hz with ⟨h2, _⟩ | ⟨g', n0, cap', p, h2, hle3, hp, rfl⟩
  · cases h2
  simp only [Value.slice.injEq, Option.some.injEq, Addr.mk.injEq, and_true, true_and] at h2
  obtain ⟨rfl, rfl, rfl⟩ := h2
  have hne : g ≠ g2 := by
    intro e
    subst e
    exact (List.pairwise_cons.1 hs.apart).1 _ List.mem_cons_self g rfl rfl
  rw [hp hc]
  obtain ⟨i, ht, hi, his⟩ : ∃ i, P.underlying tS = some (.slice e) ∧ P.info? e = some i ∧ i.size = sz := by
    unfold szOf at hsz
    split at hsz
    · rename_i e' hu
      cases hie : P.info? e' with
      | none => rw [hie] at hsz; cases hsz
      | some i =>
        rw [hie] at hsz
        simp only [Option.map_some, Option.some.injEq, Prod.mk.injEq] at hsz
        obtain ⟨rfl, rfl⟩ := hsz
        exact ⟨i, hu, hie, rfl⟩
    · cases hsz
  refine ⟨_, w, _, R, _, ?_, hk, .val _, hs, Ext.refl _ _ _⟩
  rw [run_callFunc_extern hf hname hb hn he]
  have := Lib.run_overlaps_apart (P := P) w tS tR e ht sz (fun w => by simp [sizeOf, typeInfo, hi, his]) ⟨g, 0, none⟩ ⟨g2, a * s, none⟩ ly.length cap n (cap2 - a) hne Ey E cur.size cur2.size (by simp [World.shape?, hh]) (by simp [World.shape?, hh2]) (by
    rw [hcs2]
    exact Nat.mul_ne_zero (by omega) (by omega)) (by simp [World.frozen?, hh]) (by simp [World.frozen?, hh])
  rw [show ([Value.slice (some ⟨g, 0, none⟩) ly.length cap, Value.slice (some ⟨g2, a * s, none⟩) n (cap2 - a)] : List Value).toArray = #[Value.slice (some ⟨g, 0, none⟩) ly.length cap, Value.slice (some ⟨g2, a * s, none⟩) n (cap2 - a)] from rfl, this]
  rfl
/-- Cells of a row are written, the last ones behind its end. -/
theorem row_grow {R : RO} {w : World} {σ1 σ2 : Store} {g n0 cap : Nat} {E : TypeId} {sz : Nat} {l ys : List AV} {news : List Value} (hs : St R w (σ1 ++ .row (.slice (some ⟨g, 0, none⟩) n0 cap) E sz l 0 :: σ2)) {a : Nat}
    (hr : VRs R news (flat ys)) (hone : ∀ v ∈ news, v.oneCell' = true) (hys : ∀ y ∈ ys, y.cells.length = sz) (ha : a ≤ l.length) (hle : l.length ≤ a + ys.length) (hcp : a + ys.length ≤ cap) (hmx : a + ys.length ≤ maxLen) :
    ∃ w', (storeCells ⟨g, a * sz, none⟩ news).run P w = .ok () w' ∧ St R w' (σ1 ++ .row (.slice (some ⟨g, 0, none⟩) (a + ys.length) cap) E sz (l.take a ++ ys) 0 :: σ2) ∧
      Ext R w (σ1 ++ .row (.slice (some ⟨g, 0, none⟩) n0 cap) E sz l 0 :: σ2) R w' (σ1 ++ .row (.slice (some ⟨g, 0, none⟩) (a + ys.length) cap) E sz (l.take a ++ ys) 0 :: σ2) := by
  obtain ⟨vs, hvr, hvo, hown, hsz0, hsz, hc⟩ := row_cells hs (v := .slice (some ⟨g, 0, none⟩) n0 cap) (E := E) (sz := sz) (l := l) (fl := 0) (by simp)
  have hent0 := hs.ents (.row (.slice (some ⟨g, 0, none⟩) n0 cap) E sz l 0) (by simp)
  obtain ⟨_, _, _, hmax, hflo⟩ := hent0
  rcases hown.2 with ⟨h0, _⟩ | ⟨g', cap', cur, hvv, _, hh, hnc, hcm, hcs, htake⟩
  · cases h0
  · simp only [Value.slice.injEq, Option.some.injEq, Addr.mk.injEq, and_true, true_and] at hvv
    obtain ⟨rfl, hn, rfl⟩ := hvv
    have hnl : news.length = ys.length * sz := by rw [hr.1, flat_length hys]
    have hbnd : (a + ys.length) * sz ≤ cap * sz := Nat.mul_le_mul_right _ hcp
    have hal : a * sz ≤ l.length * sz := Nat.mul_le_mul_right _ ha
    have hcap : l.length * sz ≤ cap * sz := Nat.mul_le_mul_right _ hnc
    have hcs' : cur.size = cap * sz := hcs
    have hadd : (a + ys.length) * sz = a * sz + ys.length * sz := Nat.add_mul _ _ _
    have hst := run_storeCells_at P g (a * sz) E news 0 cur w hh (by rw [hnl]; omega) hone
    simp only [Nat.add_zero] at hst
    refine ⟨_, hst, ?_⟩
    have hvl : vs.length = l.length * sz := by rw [hvr.1, flat_length hsz]
    have hflat : flat (l.take a ++ ys) = (flat l).take (a * sz) ++ flat ys := by rw [flat_append, flat_take hsz]
    have hnew : VRs R (vs.take (a * sz) ++ news) (flat (l.take a ++ ys)) := by
      rw [hflat]
      exact (hvr.take _).append hr
    have hlen2 : (l.take a ++ ys).length = a + ys.length := by simp; omega
    have hwin : (cur.toList.take (a * sz) ++ news ++ cur.toList.drop (a * sz + news.length)).take ((a + ys.length) * sz) = vs.take (a * sz) ++ news := by
      rw [← htake, List.take_take, Nat.min_eq_left hal]
      refine List.take_left' ?_
      rw [List.length_append, List.length_take, Array.length_toList, hnl]
      omega
    have hsz2 : ∀ e ∈ l.take a ++ ys, e.cells.length = sz := by
      intro e he
      simp only [List.mem_append] at he
      rcases he with he | he
      · exact hsz e (List.mem_of_mem_take he)
      · exact hys e he
    refine st_change hs (e := .row (.slice (some ⟨g, 0, none⟩) n0 cap) E sz l 0) (e' := .row (.slice (some ⟨g, 0, none⟩) (a + ys.length) cap) E sz (l.take a ++ ys) 0) (b := g) rfl rfl (by simp) (by simp) (by simp) (by simp) (fun k hk => setRow_other w g k _ hk) ?_ ?_
    · intro b v hb hab
      have := (hflo b v hb (by simp [Value.ownBlock, hab])).1
      omega
    · refine ⟨hsz0, hsz2, ⟨_, ⟨by rw [hnew.1, flat_length hsz2], .inr ⟨g, cap, _, by rw [hlen2], Nat.zero_le _, setRow_heap w g cur _ E _ hh, by rw [hlen2]; exact hcp, hcm, ?_, by rw [hlen2]; exact hwin⟩⟩, hnew, ?_⟩, by rw [hlen2]; exact hmx, fun b v hb hv => ?_⟩
      · simp only [List.size_toArray, List.length_append, List.length_take, Array.length_toList, List.length_drop, hcs']; omega
      · intro v hv
        simp only [List.mem_append] at hv
        rcases hv with hv | hv
        · exact hvo v (List.mem_of_mem_take hv)
        · exact hone v hv
      · have := (hflo b v hb hv).1
        omega
theorem szOf_run {t E : TypeId} {sz : Nat} (hsz : szOf P t = some (E, sz)) : ∃ i, P.underlying t = some (.slice E) ∧ P.info? E = some i ∧ i.size = sz := by
  unfold szOf at hsz
  split at hsz
  · rename_i e' hu
    cases hie : P.info? e' with
    | none => rw [hie] at hsz; cases hsz
    | some i =>
      rw [hie] at hsz
      simp only [Option.map_some, Option.some.injEq, Prod.mk.injEq] at hsz
      obtain ⟨rfl, rfl⟩ := hsz
      exact ⟨i, hu, hie, rfl⟩
  · cases hsz
/-- The last elements of a row move by one. -/
theorem rawB_shift {t xt E : TypeId} {sz : Nat} (hz : szOf P t = some (E, sz)) {v : Value} {i m : Nat} {σ1 σ2 : Store} {l : List AV} (hl : l.length = i + m) (h0 : 0 < m) (hc : l.length + 1 ≤ capV v) (hmx : l.length + 1 ≤ maxLen) {k : AV → Store → Prop}
    (hk : k (.val (.int .i64 ((m : Nat) : Int))) (σ1 ++ .row (reV v (l.length + 1)) E sz (l.take (i + 1) ++ l.drop i) 0 :: σ2)) :
    rawB P .copy #[t, xt] [.sub (reV v (l.length + 1)) sz (i + 1) m, .sub (reV v (l.length + 1)) sz i (m + 1)] (σ1 ++ .row v E sz l 0 :: σ2) k := by
  intro R w xs hv hs ty cs
  obtain ⟨x, y, rfl⟩ : ∃ x y, xs = [x, y] := by
    match xs, hv.1 with
    | [x, y], _ => exact ⟨x, y, rfl⟩
  have hx := (hv.2 0 _ _ rfl rfl).sub_inv
  have hy := (hv.2 1 _ _ rfl rfl).sub_inv
  obtain ⟨vs, hr, hone, hown, hz0, hsz, hcc⟩ := row_cells hs (v := v) (E := E) (sz := sz) (l := l) (fl := 0) (by simp)
  rcases hown.2 with ⟨rfl, h00⟩ | ⟨g, cap, cur, rfl, _, hh, hle, hcm, hcs, htk⟩
  · omega
  simp only [capV] at hc
  simp only [reV] at hx hy hk
  obtain ⟨inf, ht, hi, his⟩ := szOf_run hz
  rcases hx with ⟨h1, _⟩ | ⟨g', n0, cap', p, h1, hle2, hp, rfl⟩
  · cases h1
  simp only [Value.slice.injEq, Option.some.injEq, Addr.mk.injEq, and_true, true_and] at h1
  obtain ⟨rfl, rfl, rfl⟩ := h1
  rcases hy with ⟨h1, _⟩ | ⟨g', n0, cap', p2, h1, hle3, hp2, rfl⟩
  · cases h1
  simp only [Value.slice.injEq, Option.some.injEq, Addr.mk.injEq, and_true, true_and] at h1
  obtain ⟨rfl, rfl, rfl⟩ := h1
  rw [hp (by omega), hp2 (by omega)]
  have hvl : vs.length = l.length * sz := hown.1
  have hdl : (vs.drop (i * sz)).length = m * sz := by rw [List.length_drop, hvl, hl, Nat.add_mul]; omega
  have hread : (Builtin.firstCells sz m (.slice (some ⟨g, i * sz, none⟩) (m + 1) (cap - i))).run P w = .ok (vs.drop (i * sz)).toArray w :=
    run_firstCells_some w sz m ⟨g, i * sz, none⟩ (m + 1) (cap - i) (vs.drop (i * sz)) hdl fun j u hj => by
      rw [addr_lit_add]
      have := hcc g _ cap rfl (i * sz + j) u (by simpa using hj)
      rw [addr_lit_add, Nat.zero_add] at this
      exact this
  have hlen : (l.drop i).length = m := by rw [List.length_drop, hl]; omega
  obtain ⟨w', hst, g1, g2⟩ := row_grow (P := P) hs (a := i + 1) (ys := l.drop i) (news := vs.drop (i * sz)) (by rw [flat_drop hsz]; exact hr.drop _) (fun v hv => hone v (List.mem_of_mem_drop hv)) (fun y hy => hsz y (List.mem_of_mem_drop hy)) (by omega) (by omega) (by omega) (by omega)
  have e1 : i + 1 + (l.drop i).length = l.length + 1 := by omega
  rw [e1] at g1 g2
  refine ⟨.int .i64 ((m : Nat) : Int), w', _, R, _, ?_, hk, .val _, g1, g2⟩
  have hmin : Nat.min (m + 1) m = m := Nat.min_eq_right (by omega)
  have hszr : (sizeOf E).run P w = .ok sz w := by simp [sizeOf, typeInfo, hi, his]
  simp [builtin, Builtin.copy_, run_underlying ht, hszr, Builtin.lenOf, hmin, hread, hst, goInt]
/-- A row told as a part of itself, and back. -/
theorem Sub.part {σ : Store} {v : Value} {E : TypeId} {sz fl n : Nat} {l : List AV} (hm : Ent.row v E sz l fl ∈ σ) (h0 : 0 < l.length) (m : Nat) (us : List AV) : Sub σ (.own v n :: us) σ (.sub (reV v m) sz 0 n :: us) := by
  intro R w vs hv hs
  obtain ⟨ws, hr, hone, hown, hz0, hsz, hcc⟩ := row_cells hs hm
  obtain ⟨hl, hx⟩ := hv
  match vs, hl with
  | x :: vs, hl =>
    obtain ⟨e, hrow⟩ := (hx 0 _ x rfl rfl).own_inv
    subst e
    refine ⟨R, VRs.cons ?_ ⟨by simpa using hl, fun j u y hu hy => hx (j + 1) u y (by simpa using hu) (by simpa using hy)⟩, hs, Ext.refl _ _ _⟩
    rcases hown.2 with ⟨rfl, h00⟩ | ⟨g, cap, cur, rfl, _, hh, hle, hcm, hcs, htk⟩
    · omega
    · rcases hrow with ⟨h1, _⟩ | ⟨g', cap', h1, h2⟩
      · cases h1
      · simp only [Value.slice.injEq, Option.some.injEq, Addr.mk.injEq, and_true, true_and] at h1
        obtain ⟨rfl, rfl, rfl⟩ := h1
        exact .sub (.inr ⟨g, m, cap, ⟨g, 0, none⟩, rfl, by omega, fun _ => by simp, by simp⟩)
theorem Sub.whole {σ : Store} {v : Value} {E : TypeId} {sz fl n : Nat} {l : List AV} (hm : Ent.row v E sz l fl ∈ σ) (h0 : 0 < n) (hn : l.length = n) (us : List AV) : Sub σ (.sub v sz 0 n :: us) σ (.own v n :: us) := by
  intro R w vs hv hs
  obtain ⟨ws, hr, hone, hown, hz0, hsz, hcc⟩ := row_cells hs hm
  obtain ⟨hl, hx⟩ := hv
  match vs, hl with
  | x :: vs, hl =>
    have h := (hx 0 _ x rfl rfl).sub_inv
    refine ⟨R, VRs.cons ?_ ⟨by simpa using hl, fun j u y hu hy => hx (j + 1) u y (by simpa using hu) (by simpa using hy)⟩, hs, Ext.refl _ _ _⟩
    rcases hown.2 with ⟨rfl, h00⟩ | ⟨g, cap, cur, rfl, _, hh, hle, hcm, hcs, htk⟩
    · omega
    · rcases h with ⟨h1, _⟩ | ⟨g', n0, cap', p, h1, h2, hp, rfl⟩
      · cases h1
      · simp only [Value.slice.injEq, Option.some.injEq, Addr.mk.injEq, and_true, true_and] at h1
        obtain ⟨rfl, rfl, rfl⟩ := h1
        have e : p = ⟨g, 0, none⟩ := by rw [hp (by omega)]; simp
        subst e
        have : Value.slice (some ⟨g, 0, none⟩) n (cap - 0) = .slice (some ⟨g, 0, none⟩) l.length cap := by rw [hn]; rfl
        rw [this]
        exact .own (.inr ⟨g, cap, by rw [hn], by omega⟩)
theorem St.two {R : RO} {w : World} {y v : Value} {Ey E : TypeId} {sy s fy fl : Nat} {ly l : List AV} (hs : St R w [.row y Ey sy ly fy, .row v E s l fl]) (hl : 0 < l.length) : y.ownBlock ≠ v.ownBlock := by
  intro e
  obtain ⟨vs, hr, hone, hown, hz0, hsz, hc⟩ := row_cells hs (v := v) (E := E) (sz := s) (l := l) (fl := fl) (List.mem_cons_of_mem _ List.mem_cons_self)
  rcases hown.2 with ⟨h1, h2⟩ | ⟨g, cap, cur, rfl, _⟩
  · omega
  · exact (List.pairwise_cons.1 hs.apart).1 _ List.mem_cons_self g (by show y.ownBlock = _; rw [e]; rfl) rfl
theorem reV_block (v : Value) (n : Nat) : (reV v n).ownBlock = v.ownBlock := by
  unfold reV
  split
  · rename_i a b c; cases a <;> rfl
  · rfl
/-- A copy into a part of a row that stands alone under its name. -/
theorem cpSub {t xt E : TypeId} {v : Value} {a n sz : Nat} {x : AV} {σ1 σ2 : Store} {l ys : List AV} {k : AV → Store → Prop} (hz : szOf P t = some (E, sz)) (hs : srcP sz (σ1 ++ .row v E sz l 0 :: σ2) x ys)
    (hu : ∀ e ∈ σ1 ++ σ2, ∀ E' s' l' f', e ≠ .row v E' s' l' f') (hle : a + n ≤ l.length)
    (hk : k (.val (.int .i64 ((min ys.length n : Nat) : Int))) (σ1 ++ .row v E sz (l.take a ++ ys.take (min ys.length n) ++ l.drop (a + min ys.length n)) 0 :: σ2)) : aHook (eCopy P t xt (.sub v sz a n) x (σ1 ++ .row v E sz l 0 :: σ2)) k := by
  refine ⟨_, .inl ⟨sz, ys, hs, ⟨rfl, E, l, hz, by simp, hle⟩, rfl⟩, ?_⟩
  rintro u σ' ⟨E', l', τ1, τ2, e, rfl, rfl⟩
  have : τ1 = σ1 ∧ E' = E ∧ l' = l ∧ τ2 = σ2 := by
    rcases List.append_eq_append_iff.1 e with ⟨ρ, h1, h2⟩ | ⟨ρ, h1, h2⟩
    · cases ρ with
      | nil =>
        simp only [List.nil_append, List.cons.injEq, Ent.row.injEq] at h2
        obtain ⟨⟨_, rfl, _, rfl, _⟩, rfl⟩ := h2
        exact ⟨by rw [h1]; simp, rfl, rfl, rfl⟩
      | cons r ρ =>
        simp only [List.cons_append, List.cons.injEq] at h2
        obtain ⟨_, rfl⟩ := h2
        exact absurd rfl (hu (.row v E' sz l' 0) (by simp) E' sz l' 0)
    · cases ρ with
      | nil =>
        simp only [List.nil_append, List.cons.injEq, Ent.row.injEq] at h2
        obtain ⟨⟨_, rfl, _, rfl, _⟩, rfl⟩ := h2
        exact ⟨by rw [h1]; simp, rfl, rfl, rfl⟩
      | cons r ρ =>
        simp only [List.cons_append, List.cons.injEq] at h2
        obtain ⟨rfl, _⟩ := h2
        exact absurd rfl (hu (.row v E' sz l' 0) (by rw [h1]; simp) E' sz l' 0)
  obtain ⟨rfl, rfl, rfl, rfl⟩ := this
  exact hk
end raw
end Go.Ab
