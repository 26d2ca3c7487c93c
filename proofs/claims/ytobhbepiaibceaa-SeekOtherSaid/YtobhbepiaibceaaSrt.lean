/- slices.SortFunc at entries: from the kit's contract to a call told of abstract states. -/
import Derived.Shelf.SlSortCmp.NoneTotal
import Derived.Test.YtobhbepiaibceaaSrtLay
import Derived.Test.YtobhbepiaibceaaF7
set_option linter.unusedVariables false
set_option linter.unusedSimpArgs false
namespace Go.Ab
open Go.Proofs Go.Shelf Go.RowKit Go.Lib Go.Sort
theorem isNaN_walk (x : ByteArray) (W : World) : Calls Go.Proofs.Try.prog 130 #[.string x] W fun e w' => e = .returned (.bool false) ∧ w' = W := by
  go_enter Go.Proofs.Try.func130, Go.Proofs.Try.ntmps130
  go_wp2
  go_ret
  exact ⟨rfl, rfl⟩
set_option maxHeartbeats 1000000 in
theorem compare_walk (a b : List UInt8) (W : World) : Calls Go.Proofs.Try.prog 116 #[.string ⟨a.toArray⟩, .string ⟨b.toArray⟩] W fun e w' => e = .returned (.int .i64 (cmpK a b)) ∧ w' = W := by
  have h86 := isNaN_walk
  have hg : ∀ w, (binOp .gtr 9 (.string ⟨a.toArray⟩) (.string ⟨b.toArray⟩)).run Go.Proofs.Try.prog w = .ok (.bool (!(Op.bytesLess a b || decide (a = b)))) w := fun w => by simp [binOp, Op.stringOp, bdec]
  have hl : Op.bytesLess (⟨a.toArray⟩ : ByteArray).toList (⟨b.toArray⟩ : ByteArray).toList = Op.bytesLess a b := by simp
  go_enter Go.Proofs.Try.func116, Go.Proofs.Try.ntmps116
  go_wp2_with (go_at_call 130; refine (h86 _ _).mono ?_; rintro e w' ⟨rfl, rfl⟩)
  all_goals go_ret
  all_goals refine ⟨?_, rfl⟩
  all_goals simp_all [cmpK, lt]
/-- An entry's cells. -/
def enc (e : En) : List Value := [.string ⟨e.key.toArray⟩, .string ⟨e.val.toArray⟩, .bool e.del, .int .i64 e.seq]
theorem byKey_walk (x y : En) (W : World) : Calls Go.Proofs.Try.prog 94 #[.agg (enc x).toArray, .agg (enc y).toArray] W fun e w' => e = .returned (.int .i64 (cmpK x.key y.key)) ∧ ∃ q os', w' = grow (W.drewN q) os' := by
  have hcon := fun W' => compare_walk x.key y.key W'
  simp only [enc]
  generalize cmpK x.key y.key = r at hcon ⊢
  go_enter Go.Proofs.Try.func94, Go.Proofs.Try.ntmps94
  go_wp2_with (go_at_call 116; refine (hcon _).mono ?_; rintro e w' ⟨rfl, rfl⟩)
  go_ret
  exact ⟨rfl, 0, _, by rw [alloc_eq_grow, alloc_eq_grow, grow_grow]; rfl⟩
theorem ltOf_key (x y : En) : ltOf (fun x y : En => cmpK x.key y.key) x y = lt x.key y.key := by
  unfold ltOf
  cases h : lt x.key y.key with
  | true => simp [cmpK, h]
  | false => have := (cmpK_neg x.key y.key).2 h; simp; omega
theorem swo_key : SWO (ltOf fun x y : En => cmpK x.key y.key) where
  irrefl x := by rw [ltOf_key, lt_irrefl]
  trans x y z h1 h2 := by rw [ltOf_key] at *; exact lt_trans' h1 h2
  ntrans x y z h1 h2 := by
    rw [ltOf_key] at *
    cases h : lt x.key z.key with
    | false => rfl
    | true => rw [lt_of_ge h1 h] at h2; cases h2
theorem flat_enc (l : List En) : flat (l.map En.av) = (l.flatMap enc).map .val := by
  induction l with
  | nil => rfl
  | cons e l ih =>
    simp only [List.map_cons, List.flatMap_cons, List.map_append, ← ih]
    rfl
theorem flatK_enc (d : Array En) : (flatK enc 4 d).toList = d.toList.flatMap enc := by
  obtain ⟨l, rfl⟩ : ∃ l, d = List.toArray l := ⟨d.toList, by simp⟩
  have hf : ∀ l : List En, (l.flatMap enc).length = l.length * 4 := fun l => by
    induction l with
    | nil => rfl
    | cons e l ih => simp only [List.flatMap_cons, List.length_append, ih, List.length_cons, enc, List.length_nil]; omega
  have hg : ∀ (l : List En) (t : Nat), t < l.length * 4 → (l.flatMap enc)[t]? = some ((enc (l.getD (t / 4) default))[t % 4]!) := by
    intro l
    induction l with
    | nil => intro t ht; simp at ht
    | cons e l ih =>
      intro t ht
      rcases Nat.lt_or_ge t 4 with h4 | h4
      · rw [List.flatMap_cons, List.getElem?_append_left (by simpa [enc] using h4)]
        have e1 : t / 4 = 0 := by omega
        have e2 : t % 4 = t := by omega
        rw [e1, e2, List.getD_cons_zero, List.getElem!_eq_getElem?_getD, List.getElem?_eq_getElem (by simpa [enc] using h4)]
        rfl
      · rw [List.flatMap_cons, List.getElem?_append_right (by simpa [enc] using h4)]
        have e3 : (enc e).length = 4 := rfl
        obtain ⟨u, rfl⟩ : ∃ u, t = u + 4 := ⟨t - 4, by omega⟩
        have e1 : (u + 4) / 4 = u / 4 + 1 := by omega
        have e2 : (u + 4) % 4 = u % 4 := by omega
        rw [e3, Nat.add_sub_cancel, e1, e2, List.getD_cons_succ]
        exact ih u (by simp at ht; omega)
  apply List.ext_getElem?
  intro t
  rcases Nat.lt_or_ge t (l.length * 4) with h | h
  · rw [show (List.toArray l).toList = l from rfl, hg l t h]
    have hs : t < (flatK enc 4 l.toArray).size := by simpa using h
    have := get_flatK enc 4 l.toArray t (by simpa using h)
    rw [getElem!_pos _ t hs] at this
    rw [Array.getElem?_toList, Array.getElem?_eq_getElem hs, this]
    simp [List.getD_eq_getElem?_getD, Array.getElem!_eq_getD, Array.getD]
    by_cases h4 : t / 4 < l.length <;> simp [h4]
  · rw [List.getElem?_eq_none (by simpa using h), List.getElem?_eq_none (by rw [hf]; exact h)]
theorem flatMap_enc_length : ∀ l : List En, (l.flatMap enc).length = l.length * 4
  | [] => rfl
  | e :: l => by simp only [List.flatMap_cons, List.length_append, flatMap_enc_length l, List.length_cons, enc, List.length_nil]; omega
theorem enc_one (l : List En) : ∀ v ∈ l.flatMap enc, v.oneCell' = true := by
  intro v hv
  obtain ⟨e, _, h⟩ := List.mem_flatMap.1 hv
  simp only [enc, List.mem_cons, List.not_mem_nil, or_false] at h
  rcases h with rfl | rfl | rfl | rfl <;> rfl
theorem grown_grow (w : World) (os : Array Obj) : w.grownBy (grow w os) none := ⟨rfl, rfl, rfl, by simp, fun k hk _ => heap_grow_old w os hk⟩
theorem body_sort : HasBody Go.Proofs.Try.prog 99 := ⟨Go.Proofs.Try.f99, _, by kernel_rfl, rfl, by kernel_rfl⟩
theorem sort_ok (l : List En) (v : Value) (σ1 σ2 : Store) (hlen : l.length < 4611686018427387904) : ACalls Go.Proofs.Try.prog 99 [.own v l.length, .val (.func (.func 94) #[] #[])] (σ1 ++ .row v 54 4 (l.map En.av) 0 :: σ2)
    fun x σ' => ∃ l' : List En, (l'.Perm l ∧ l'.Pairwise fun a b => lt b.key a.key = false) ∧ x = .ret (.tuple []) ∧ σ' = σ1 ++ .row v 54 4 (l'.map En.av) 0 :: σ2 := by
  refine ⟨body_sort, fun R w vs hv hs => ?_⟩
  obtain ⟨hvl, hvr⟩ := hv
  match vs, hvl with
  | [x, y], _ =>
    have hx := (hvr 0 _ x rfl rfl).own_inv.1
    have hy := (hvr 1 _ y rfl rfl).val_inv
    subst hx; subst hy
    obtain ⟨h1, h2, ⟨xs, hown, hxs, hone⟩, hmx, hR⟩ := hs.ents (.row x 54 4 (l.map En.av) 0) (by simp)
    have hxs' : xs = l.flatMap enc := VRs.toVals (by rw [← flat_enc]; exact hxs)
    subst hxs'
    obtain ⟨hlx, hown⟩ := hown
    rw [List.length_map] at hlx hown
    rcases hown with ⟨rfl, h0⟩ | ⟨g, cap, cur, rfl, hg0, hg, hnc, hcap, hsz, hcur⟩
    · have hl0 : l = [] := List.length_eq_zero_iff.1 h0
      subst hl0
      refine (AnyF.slices_SortFunc_none Go.Proofs.Try.sortEn none 0 _ w).mono ?_
      rintro e w' ⟨rfl, rfl⟩
      exact ⟨.ret (.tuple []), R, _, VR.tuple' (VRs.nil R), ⟨[], ⟨List.Perm.refl _, List.Pairwise.nil⟩, rfl, rfl⟩, hs, Ext.refl _ _ _⟩
    · have hgl : g < w.heap.size := by
        rcases Nat.lt_or_ge g w.heap.size with h | h
        · exact h
        · rw [Array.getElem?_eq_none h] at hg; cases hg
      have eg : ∀ args w, (callFunc 94 args).run Go.Proofs.Try.prog w = .ok (.enter 94 args) w := enters_of Go.Proofs.Try.func94 (by kernel_rfl) rfl
      have hfk := flatK_enc l.toArray
      have hH : HoldsK enc 4 w g 0 l.toArray := by
        intro j hj
        have hj' : j < l.length * 4 := by simpa using hj
        have hc : cur.toList[j]? = (l.flatMap enc)[j]? := by
          rw [← hcur, List.getElem?_take, if_pos hj']
        have hc2 : cur[j]? = some ((flatK enc 4 l.toArray)[j]!) := by
          rw [← Array.getElem?_toList, hc, ← hfk, Array.getElem?_toList, getElem!_pos _ j hj, Array.getElem?_eq_getElem hj]
        exact ⟨by simp only [World.cell?, hg, Nat.zero_add]; simpa using hc2, by simp [World.frozen?, hg]⟩
      have hcon := AnyQ.slices_SortFunc Go.Proofs.Try.sortEn 4 Go.Proofs.Try.isAgg54 Go.Proofs.Try.sizeOf54 enc (fun _ => rfl) (fun e u hu => enc_one [e] u (by simpa using hu)) (fun x y => cmpK x.key y.key) swo_key 94 #[] g 0 cap l.toArray w eg (fun _ _ _ _ x y => byKey_walk x y _) hH hgl (by simpa using hlen)
      refine hcon.mono ?_
      rintro e w' ⟨rfl, d', n, os, hp, hso, rfl⟩
      obtain ⟨hds, _, hpm⟩ := hp
      have hds : d'.size = l.length := by simpa using hds
      have hperm : d'.toList.Perm l := by
        have h3 := hpm
        simp only [List.size_toArray, ← hds, Array.extract_size] at h3
        rw [hds, show l.length = l.toArray.size from rfl, Array.extract_size] at h3
        exact h3
      have hpw : d'.toList.Pairwise fun a b => lt b.key a.key = false := by
        rw [List.pairwise_iff_getElem]
        intro i j hi hj hij
        have := hso i j (Nat.zero_le _) hij (by simpa [← hds] using hj)
        rw [ltOf_key, getElem!_pos d' j (by simpa using hj), getElem!_pos d' i (by simpa using hi)] at this
        simpa using this
      obtain ⟨cur', hcur'⟩ : ∃ c, c = putCells id 0 (flatK enc 4 d') cur := ⟨_, rfl⟩
      have hmod : ∀ k, (putRowK enc 4 (Go.Sort.ahead w n) g 0 d').heap[k]? = if k = g then some (.cells cur' 54 (0, 0)) else w.heap[k]? := by
        intro k
        show (w.heap.modify g _)[k]? = _
        rw [Array.getElem?_modify]
        by_cases hk : k = g
        · subst hk
          rw [if_pos rfl, if_pos rfl, hg, hcur']
          rfl
        · rw [if_neg (fun h => hk h.symm), if_neg hk]
      have htake : cur'.toList.take (l.length * 4) = d'.toList.flatMap enc := by
        rw [← flatK_enc, hcur']
        apply List.ext_getElem?
        intro t
        have hfs : (flatK enc 4 d').size = l.length * 4 := by simp [hds]
        have hcs : l.length * 4 ≤ cur.size := by rw [hsz]; exact Nat.mul_le_mul_right 4 hnc
        rcases Nat.lt_or_ge t (l.length * 4) with h | h
        · rw [List.getElem?_take, if_pos h, Array.getElem?_toList, Array.getElem?_toList]
          unfold putCells
          rw [Array.getElem?_mapIdx, Array.getElem?_eq_getElem (by omega : t < cur.size), Array.getElem?_eq_getElem (by omega : t < (flatK enc 4 d').size)]
          simp only [Option.map_some, Nat.zero_le, true_and, Nat.zero_add, Nat.sub_zero, id_eq]
          rw [if_pos (by omega), getElem!_pos _ t (by omega)]
        · rw [List.getElem?_eq_none (by simp; omega), List.getElem?_eq_none (by simp; omega)]
      have hcs' : cur'.size = cap * 4 := by rw [hcur']; simp [putCells, hsz]
      have hE : EntOk R (putRowK enc 4 (Go.Sort.ahead w n) g 0 d') (.row (.slice (some ⟨g, 0, none⟩) l.length cap) 54 4 (d'.toList.map En.av) 0) := by
        refine ⟨h1, fun e he => ?_, ⟨d'.toList.flatMap enc, ⟨?_, .inr ⟨g, cap, cur', ?_, hg0, ?_, ?_, hcap, hcs', ?_⟩⟩, ?_, enc_one _⟩, ?_, fun a x ha hb => ?_⟩
        · obtain ⟨e0, _, rfl⟩ := List.mem_map.1 he
          rfl
        · rw [flatMap_enc_length]; simp
        · simp [hds]
        · rw [hmod, if_pos rfl]
        · simpa [hds] using hnc
        · simpa [hds] using htake
        · rw [flat_enc]; exact VRs.ofVals R _
        · simpa [hds] using hmx
        · have := hR a x ha hb
          omega
      have hst := st_change (b := g) (e' := .row (.slice (some ⟨g, 0, none⟩) l.length cap) 54 4 (d'.toList.map En.av) 0) hs rfl rfl (w' := putRowK enc 4 (Go.Sort.ahead w n) g 0 d') rfl rfl rfl (by show (w.heap.modify g _).size = _; simp) (fun k hk => by rw [hmod, if_neg hk]) (fun a x ha hb => by
        have := hR a x ha (by simp [Value.ownBlock, hb])
        omega) hE
      obtain ⟨q1, q2⟩ := hst
      obtain ⟨q3, q4⟩ := st_roNew q1 (grown_grow _ os)
      exact ⟨.ret (.tuple []), _, _, VR.tuple' (VRs.nil _), ⟨d'.toList, ⟨hperm, hpw⟩, rfl, rfl⟩, q3, q2.trans q4⟩
instance sortQ {l : List En} {v : Value} {n : Nat} {σ rest : Store} {put : Ent → Store} [hr : RowAt v σ 54 4 (l.map En.av) 0 put rest] :
    EQ Go.Proofs.Try.prog 99 [.own v n, .val (.func (.func 94) #[] #[])] σ (n = l.length ∧ l.length < 4611686018427387904) (List En) (fun l' => l'.Perm l ∧ l'.Pairwise fun a b => lt b.key a.key = false) (fun _ => .tuple []) (fun l' => put (.row v 54 4 (l'.map En.av) 0)) := ⟨fun ⟨h1, h2⟩ => by
  obtain ⟨σ1, σ2, e, e2, _⟩ := hr.at_
  subst h1; subst e
  simp only [e2]
  exact sort_ok l v σ1 σ2 h2⟩
end Go.Ab
