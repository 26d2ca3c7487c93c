/- The texts that this claim needs, part 11: a logic over abstract values, its steps, what the functions do. No condition of its own. -/
import Derived.Shelf.SlSortCmp.NoneTotal
import Derived.Test.YtobhbepiaibceaaSeekWholeK10
/- slices.SortFunc at entries: from the kit's contract to a call told of abstract states. -/
set_option linter.unusedVariables false
set_option linter.unusedSimpArgs false
namespace Go.Ab
open Go.Proofs Go.Shelf Go.RowKit Go.Lib Go.Sort
theorem isNaN_walk (x : ByteArray) (W : World) : Calls Go.Proofs.Try.prog 130 #[.string x] W fun e w' => e = .returned (.bool false) ∧ w' = W := by
  go_enter Go.Proofs.Try.func130, Go.Proofs.Try.ntmps130
  go_wp2
  go_ret
  exact ⟨rfl, rfl⟩
set_option maxHeartbeats 1000000 in
theorem compare_walk (a b : List UInt8) (W : World) : Calls Go.Proofs.Try.prog 116 #[.string ⟨a.toArray⟩, .string ⟨b.toArray⟩] W fun e w' => e = .returned (.int .i64 (cmpK a b)) ∧ w' = W := by
  have h86 := isNaN_walk
  have hg : ∀ w, (binOp .gtr 9 (.string ⟨a.toArray⟩) (.string ⟨b.toArray⟩)).run Go.Proofs.Try.prog w = .ok (.bool (!(Op.bytesLess a b || decide (a = b)))) w := fun w => by simp [binOp, Op.stringOp, bdec]
  have hl : Op.bytesLess (⟨a.toArray⟩ : ByteArray).toList (⟨b.toArray⟩ : ByteArray).toList = Op.bytesLess a b := by simp
  go_enter Go.Proofs.Try.func116, Go.Proofs.Try.ntmps116
  go_wp2_with (go_at_call 130; refine (h86 _ _).mono ?_; rintro e w' ⟨rfl, rfl⟩)
  all_goals go_ret
  all_goals refine ⟨?_, rfl⟩
  all_goals simp_all [cmpK, lt]
/-- An entry's cells. -/
def enc (e : En) : List Value := [.string ⟨e.key.toArray⟩, .string ⟨e.val.toArray⟩, .bool e.del, .int .i64 e.seq]
theorem byKey_walk (x y : En) (W : World) : Calls Go.Proofs.Try.prog 94 #[.agg (enc x).toArray, .agg (enc y).toArray] W fun e w' => e = .returned (.int .i64 (cmpK x.key y.key)) ∧ ∃ q os', w' = grow (W.drewN q) os' := by
  have hcon := fun W' => compare_walk x.key y.key W'
  simp only [enc]
  generalize cmpK x.key y.key = r at hcon ⊢
  go_enter Go.Proofs.Try.func94, Go.Proofs.Try.ntmps94
  go_wp2_with (go_at_call 116; refine (hcon _).mono ?_; rintro e w' ⟨rfl, rfl⟩)
  go_ret
  exact ⟨rfl, 0, _, by rw [alloc_eq_grow, alloc_eq_grow, grow_grow]; rfl⟩
theorem ltOf_key (x y : En) : ltOf (fun x y : En => cmpK x.key y.key) x y = lt x.key y.key := by
  unfold ltOf
  cases h : lt x.key y.key with
  | true => simp [cmpK, h]
  | false => have := (cmpK_neg x.key y.key).2 h; simp; omega
theorem swo_key : SWO (ltOf fun x y : En => cmpK x.key y.key) where
  irrefl x := by rw [ltOf_key, lt_irrefl]
  trans x y z h1 h2 := by rw [ltOf_key] at *; exact lt_trans' h1 h2
  ntrans x y z h1 h2 := by
    rw [ltOf_key] at *
    cases h : lt x.key z.key with
    | false => rfl
    | true => rw [lt_of_ge h1 h] at h2; cases h2
theorem flat_enc (l : List En) : flat (l.map En.av) = (l.flatMap enc).map .val := by
  induction l with
  | nil => rfl
  | cons e l ih =>
    simp only [List.map_cons, List.flatMap_cons, List.map_append, ← ih]
    rfl
theorem flatK_enc (d : Array En) : (flatK enc 4 d).toList = d.toList.flatMap enc := by
  obtain ⟨l, rfl⟩ : ∃ l, d = List.toArray l := ⟨d.toList, by simp⟩
  have hf : ∀ l : List En, (l.flatMap enc).length = l.length * 4 := fun l => by
    induction l with
    | nil => rfl
    | cons e l ih => simp only [List.flatMap_cons, List.length_append, ih, List.length_cons, enc, List.length_nil]; omega
  have hg : ∀ (l : List En) (t : Nat), t < l.length * 4 → (l.flatMap enc)[t]? = some ((enc (l.getD (t / 4) default))[t % 4]!) := by
    intro l
    induction l with
    | nil => intro t ht; simp at ht
    | cons e l ih =>
      intro t ht
      rcases Nat.lt_or_ge t 4 with h4 | h4
      · rw [List.flatMap_cons, List.getElem?_append_left (by simpa [enc] using h4)]
        have e1 : t / 4 = 0 := by omega
        have e2 : t % 4 = t := by omega
        rw [e1, e2, List.getD_cons_zero, List.getElem!_eq_getElem?_getD, List.getElem?_eq_getElem (by simpa [enc] using h4)]
        rfl
      · rw [List.flatMap_cons, List.getElem?_append_right (by simpa [enc] using h4)]
        have e3 : (enc e).length = 4 := rfl
        obtain ⟨u, rfl⟩ : ∃ u, t = u + 4 := ⟨t - 4, by omega⟩
        have e1 : (u + 4) / 4 = u / 4 + 1 := by omega
        have e2 : (u + 4) % 4 = u % 4 := by omega
        rw [e3, Nat.add_sub_cancel, e1, e2, List.getD_cons_succ]
        exact ih u (by simp at ht; omega)
  apply List.ext_getElem?
  intro t
  rcases Nat.lt_or_ge t (l.length * 4) with h | h
  · rw [show (List.toArray l).toList = l from rfl, hg l t h]
    have hs : t < (flatK enc 4 l.toArray).size := by simpa using h
    have := get_flatK enc 4 l.toArray t (by simpa using h)
    rw [getElem!_pos _ t hs] at this
    rw [Array.getElem?_toList, Array.getElem?_eq_getElem hs, this]
    simp [List.getD_eq_getElem?_getD, Array.getElem!_eq_getD, Array.getD]
    by_cases h4 : t / 4 < l.length <;> simp [h4]
  · rw [List.getElem?_eq_none (by simpa using h), List.getElem?_eq_none (by rw [hf]; exact h)]
theorem flatMap_enc_length : ∀ l : List En, (l.flatMap enc).length = l.length * 4
  | [] => rfl
  | e :: l => by simp only [List.flatMap_cons, List.length_append, flatMap_enc_length l, List.length_cons, enc, List.length_nil]; omega
theorem enc_one (l : List En) : ∀ v ∈ l.flatMap enc, v.oneCell' = true := by
  intro v hv
  obtain ⟨e, _, h⟩ := List.mem_flatMap.1 hv
  simp only [enc, List.mem_cons, List.not_mem_nil, or_false] at h
  rcases h with rfl | rfl | rfl | rfl <;> rfl
theorem grown_grow (w : World) (os : Array Obj) : w.grownBy (grow w os) none := ⟨rfl, rfl, rfl, by simp, fun k hk _ => heap_grow_old w os hk⟩
theorem body_sort : HasBody Go.Proofs.Try.prog 99 := ⟨Go.Proofs.Try.f99, _, by kernel_rfl, rfl, by kernel_rfl⟩
theorem sort_ok (l : List En) (v : Value) (σ1 σ2 : Store) (hlen : l.length < 4611686018427387904) : ACalls Go.Proofs.Try.prog 99 [.own v l.length, .val (.func (.func 94) #[] #[])] (σ1 ++ .row v 54 4 (l.map En.av) 0 :: σ2)
    fun x σ' => ∃ l' : List En, (l'.Perm l ∧ l'.Pairwise fun a b => lt b.key a.key = false) ∧ x = .ret (.tuple []) ∧ σ' = σ1 ++ .row v 54 4 (l'.map En.av) 0 :: σ2 := by
  refine ⟨body_sort, fun R w vs hv hs => ?_⟩
  obtain ⟨hvl, hvr⟩ := hv
  match vs, hvl with
  | [x, y], _ =>
    have hx := (hvr 0 _ x rfl rfl).own_inv.1
    have hy := (hvr 1 _ y rfl rfl).val_inv
    subst hx; subst hy
    obtain ⟨h1, h2, ⟨xs, hown, hxs, hone⟩, hmx, hR⟩ := hs.ents (.row x 54 4 (l.map En.av) 0) (by simp)
    have hxs' : xs = l.flatMap enc := VRs.toVals (by rw [← flat_enc]; exact hxs)
    subst hxs'
    obtain ⟨hlx, hown⟩ := hown
    rw [List.length_map] at hlx hown
    rcases hown with ⟨rfl, h0⟩ | ⟨g, cap, cur, rfl, hg0, hg, hnc, hcap, hsz, hcur⟩
    · have hl0 : l = [] := List.length_eq_zero_iff.1 h0
      subst hl0
      refine (AnyF.slices_SortFunc_none Go.Proofs.Try.sortEn none 0 _ w).mono ?_
      rintro e w' ⟨rfl, rfl⟩
      exact ⟨.ret (.tuple []), R, _, VR.tuple' (VRs.nil R), ⟨[], ⟨List.Perm.refl _, List.Pairwise.nil⟩, rfl, rfl⟩, hs, Ext.refl _ _ _⟩
    · have hgl : g < w.heap.size := by
        rcases Nat.lt_or_ge g w.heap.size with h | h
        · exact h
        · rw [Array.getElem?_eq_none h] at hg; cases hg
      have eg : ∀ args w, (callFunc 94 args).run Go.Proofs.Try.prog w = .ok (.enter 94 args) w := enters_of Go.Proofs.Try.func94 (by kernel_rfl) rfl
      have hfk := flatK_enc l.toArray
      have hH : HoldsK enc 4 w g 0 l.toArray := by
        intro j hj
        have hj' : j < l.length * 4 := by simpa using hj
        have hc : cur.toList[j]? = (l.flatMap enc)[j]? := by
          rw [← hcur, List.getElem?_take, if_pos hj']
        have hc2 : cur[j]? = some ((flatK enc 4 l.toArray)[j]!) := by
          rw [← Array.getElem?_toList, hc, ← hfk, Array.getElem?_toList, getElem!_pos _ j hj, Array.getElem?_eq_getElem hj]
        exact ⟨by simp only [World.cell?, hg, Nat.zero_add]; simpa using hc2, by simp [World.frozen?, hg]⟩
      have hcon := AnyQ.slices_SortFunc Go.Proofs.Try.sortEn 4 Go.Proofs.Try.isAgg54 Go.Proofs.Try.sizeOf54 enc (fun _ => rfl) (fun e u hu => enc_one [e] u (by simpa using hu)) (fun x y => cmpK x.key y.key) swo_key 94 #[] g 0 cap l.toArray w eg (fun _ _ _ _ x y => byKey_walk x y _) hH hgl (by simpa using hlen)
      refine hcon.mono ?_
      rintro e w' ⟨rfl, d', n, os, hp, hso, rfl⟩
      obtain ⟨hds, _, hpm⟩ := hp
      have hds : d'.size = l.length := by simpa using hds
      have hperm : d'.toList.Perm l := by
        have h3 := hpm
        simp only [List.size_toArray, ← hds, Array.extract_size] at h3
        rw [hds, show l.length = l.toArray.size from rfl, Array.extract_size] at h3
        exact h3
      have hpw : d'.toList.Pairwise fun a b => lt b.key a.key = false := by
        rw [List.pairwise_iff_getElem]
        intro i j hi hj hij
        have := hso i j (Nat.zero_le _) hij (by simpa [← hds] using hj)
        rw [ltOf_key, getElem!_pos d' j (by simpa using hj), getElem!_pos d' i (by simpa using hi)] at this
        simpa using this
      obtain ⟨cur', hcur'⟩ : ∃ c, c = putCells id 0 (flatK enc 4 d') cur := ⟨_, rfl⟩
      have hmod : ∀ k, (putRowK enc 4 (Go.Sort.ahead w n) g 0 d').heap[k]? = if k = g then some (.cells cur' 54 (0, 0)) else w.heap[k]? := by
        intro k
        show (w.heap.modify g _)[k]? = _
        rw [Array.getElem?_modify]
        by_cases hk : k = g
        · subst hk
          rw [if_pos rfl, if_pos rfl, hg, hcur']
          rfl
        · rw [if_neg (fun h => hk h.symm), if_neg hk]
      have htake : cur'.toList.take (l.length * 4) = d'.toList.flatMap enc := by
        rw [← flatK_enc, hcur']
        apply List.ext_getElem?
        intro t
        have hfs : (flatK enc 4 d').size = l.length * 4 := by simp [hds]
        have hcs : l.length * 4 ≤ cur.size := by rw [hsz]; exact Nat.mul_le_mul_right 4 hnc
        rcases Nat.lt_or_ge t (l.length * 4) with h | h
        · rw [List.getElem?_take, if_pos h, Array.getElem?_toList, Array.getElem?_toList]
          unfold putCells
          rw [Array.getElem?_mapIdx, Array.getElem?_eq_getElem (by omega : t < cur.size), Array.getElem?_eq_getElem (by omega : t < (flatK enc 4 d').size)]
          simp only [Option.map_some, Nat.zero_le, true_and, Nat.zero_add, Nat.sub_zero, id_eq]
          rw [if_pos (by omega), getElem!_pos _ t (by omega)]
        · rw [List.getElem?_eq_none (by simp; omega), List.getElem?_eq_none (by simp; omega)]
      have hcs' : cur'.size = cap * 4 := by rw [hcur']; simp [putCells, hsz]
      have hE : EntOk R (putRowK enc 4 (Go.Sort.ahead w n) g 0 d') (.row (.slice (some ⟨g, 0, none⟩) l.length cap) 54 4 (d'.toList.map En.av) 0) := by
        refine ⟨h1, fun e he => ?_, ⟨d'.toList.flatMap enc, ⟨?_, .inr ⟨g, cap, cur', ?_, hg0, ?_, ?_, hcap, hcs', ?_⟩⟩, ?_, enc_one _⟩, ?_, fun a x ha hb => ?_⟩
        · obtain ⟨e0, _, rfl⟩ := List.mem_map.1 he
          rfl
        · rw [flatMap_enc_length]; simp
        · simp [hds]
        · rw [hmod, if_pos rfl]
        · simpa [hds] using hnc
        · simpa [hds] using htake
        · rw [flat_enc]; exact VRs.ofVals R _
        · simpa [hds] using hmx
        · have := hR a x ha hb
          omega
      have hst := st_change (b := g) (e' := .row (.slice (some ⟨g, 0, none⟩) l.length cap) 54 4 (d'.toList.map En.av) 0) hs rfl rfl (w' := putRowK enc 4 (Go.Sort.ahead w n) g 0 d') rfl rfl rfl (by show (w.heap.modify g _).size = _; simp) (fun k hk => by rw [hmod, if_neg hk]) (fun a x ha hb => by
        have := hR a x ha (by simp [Value.ownBlock, hb])
        omega) hE
      obtain ⟨q1, q2⟩ := hst
      obtain ⟨q3, q4⟩ := st_roNew q1 (grown_grow _ os)
      exact ⟨.ret (.tuple []), _, _, VR.tuple' (VRs.nil _), ⟨d'.toList, ⟨hperm, hpw⟩, rfl, rfl⟩, q3, q2.trans q4⟩
instance sortQ {l : List En} {v : Value} {n : Nat} {σ rest : Store} {put : Ent → Store} [hr : RowAt v σ 54 4 (l.map En.av) 0 put rest] :
    EQ Go.Proofs.Try.prog 99 [.own v n, .val (.func (.func 94) #[] #[])] σ (n = l.length ∧ l.length < 4611686018427387904) (List En) (fun l' => l'.Perm l ∧ l'.Pairwise fun a b => lt b.key a.key = false) (fun _ => .tuple []) (fun l' => put (.row v 54 4 (l'.map En.av) 0)) := ⟨fun ⟨h1, h2⟩ => by
  obtain ⟨σ1, σ2, e, e2, _⟩ := hr.at_
  subst h1; subst e
  simp only [e2]
  exact sort_ok l v σ1 σ2 h2⟩
end Go.Ab

/- The code's fold. -/
set_option linter.unusedVariables false
set_option linter.unusedSimpArgs false
namespace Go.Ab
def entry_Fold.mark : Mark := ⟨fun t => false, fun t => false, fun t => false, fun t => Nat.beq t 17, fun t => Nat.beq t 40⟩
def entry_Fold.ann : Ann := ⟨fun n => bif Nat.beq n 3 then [3, 12, 13, 14] else bif Nat.beq n 11 then [8, 43] else [], fun n => none, fun n => none⟩
/-- 'marlstone/entry.Fold' -/
def entry_Fold.sh (a0 : AV) (σ : Store) (Q : AEnd → Store → Prop) : Prop :=
  aHook (eMakeMap σ) fun t11 σ =>
  Do (aBuiltin Go.Proofs.Try.prog .len #[22] [a0]) fun t13 =>
  aLoop (fun go vs σ_1 =>
    At vs 0 fun s3 => At vs 1 fun s12 => At vs 2 fun s13 => At vs 3 fun s14 => Do (aBin Go.Proofs.Try.prog .lss 3 s14 s13) fun t15 =>
    aCond t15
      (Do (aIndexAddr .slice 4 s12 s14) fun t16 =>
    Do (loadF true 4 t16) fun t17 =>
    aNewVar 54 [.val (.string ⟨#[]⟩), .val (.string ⟨#[]⟩), .val (.bool false), .val (.int .i64 0)] σ_1 fun t5 σ_2 =>
    storeA 4 t5 t17 σ_2 fun u σ_3 =>
    Do (aFieldAddr 0 1 t5) fun t20 =>
    Do (loadA false 1 t20 σ_3) fun t21 =>
    Do (lookA Go.Proofs.Try.prog 139 true s3 t21 σ_3) fun t22 =>
    Do (aExt t22 0) fun t23 =>
    Do (aExt t22 1) fun t24 =>
    aNewVar 54 [.val (.string ⟨#[]⟩), .val (.string ⟨#[]⟩), .val (.bool false), .val (.int .i64 0)] σ_3 fun t6 σ_4 =>
    storeA 4 t6 t23 σ_4 fun u_1 σ_5 =>
    Do (aUn Go.Proofs.Try.prog .not t24) fun t26 =>
    Do (aGuard t26 false (aFieldAddr 3 1 t5)) fun t28 =>
    Do (aGuard t26 false (loadA false 1 t28 σ_5)) fun t29 =>
    Do (aGuard t26 false (aFieldAddr 3 1 t6)) fun t30 =>
    Do (aGuard t26 false (loadA false 1 t30 σ_5)) fun t31 =>
    Do (aGuard t26 false (aBin Go.Proofs.Try.prog .geq 3 t29 t31)) fun t32 =>
    Do (aPick t26 (.val (.bool true)) t32) fun t33 =>
    aCond t33
      (Do (aFieldAddr 0 1 t5) fun t35 =>
      Do (loadA false 1 t35 σ_5) fun t36 =>
      Do (loadA true 4 t5 σ_5) fun t37 =>
      aHook (eMapUpd Go.Proofs.Try.prog 139 s3 t36 t37 σ_5) fun u_2 σ_6 =>
      Do (aBin Go.Proofs.Try.prog .add 3 s14 (.val (.int .i64 1))) fun t38 =>
    go [s3, s12, s13, t38] σ_6)
      (Do (aBin Go.Proofs.Try.prog .add 3 s14 (.val (.int .i64 1))) fun t38_1 =>
    go [s3, s12, s13, t38_1] σ_5))
      (Do (lenMA Go.Proofs.Try.prog 139 s3 σ_1) fun t40 =>
  aMake 54 [(.string ⟨#[]⟩), (.string ⟨#[]⟩), (.bool false), (.int .i64 0)] 4 48 (.val (.int .i64 0)) t40 σ_1 (subK fun t41 σ_7 =>
  aHook (eRange Go.Proofs.Try.prog 139 s3 σ_7) fun t43 σ_8 =>
  aLoop (fun go_1 vs_1 σ_9 =>
    At vs_1 0 fun s8 => At vs_1 1 fun s43 => aHook (eNext s43 σ_9) fun t44 σ_10 =>
    Do (aExt t44 0) fun t45 =>
    aCond t45
      (Do (entryA s43 σ_10) fun t46 =>
    Do (aExt t46 1) fun t47 =>
    aNewVar 54 [.val (.string ⟨#[]⟩), .val (.string ⟨#[]⟩), .val (.bool false), .val (.int .i64 0)] σ_10 fun t10 σ_11 =>
    storeA 4 t10 t47 σ_11 fun u_3 σ_12 =>
    Do (loadA true 4 t10 σ_12) fun t49 =>
    Do (aSlLit (mkE [.val (.string ⟨#[]⟩), .val (.string ⟨#[]⟩), .val (.bool false), .val (.int .i64 0)]) 4 1 [(0, t49)]) fun t50 =>
    aAppend 54 4 48 s8 t50 σ_12 (subK fun t51 σ_13 =>
    go_1 [t51, s43] σ_13))
      (aCall Go.Proofs.Try.prog 99 [s8, (.val (.func (.func 94) #[] #[]))] σ_10 (fun t53 σ_14 =>
  Q (.ret s8) σ_14) (fun e σ_15 => Q (.pan e) σ_15)))
    [t41, t43] σ_8)))
    [t11, a0, t13, (.val (.int .i64 0))] σ
theorem entry_Fold.eq (a0 : AV) (σ : Store) (Q : AEnd → Store → Prop) : vc (semOf Go.Proofs.Try.prog entry_Fold.mark) Go.Proofs.Try.f60.ntmps entry_Fold.ann (bodyOf Go.Proofs.Try.f60) (endK [.tmp 2] Q) (argFr [a0]) σ = entry_Fold.sh a0 σ Q := by kernel_rfl
theorem entry_Fold.go {a0 : AV} {σ : Store} {Q : AEnd → Store → Prop} (h : entry_Fold.sh a0 σ Q) : ACalls Go.Proofs.Try.prog 60 [a0] σ Q :=
  acalls_of_eq [.tmp 2] Go.Proofs.Try.func60 (by kernel_rfl) (by kernel_rfl) (by kernel_rfl) (by kernel_rfl) (entry_Fold.eq a0 σ Q) h
theorem Fold_ok (l : List En) (m : SM) (hl : l.length ≤ 1000000000) : ACalls Go.Proofs.Try.prog 60 [.lst 4 (l.map En.av) m] [] fun x σ' => ∃ v, x = .ret (.own v (foldE l).length) ∧ σ' = [.row v 54 4 ((foldE l).map En.av) 0] := by
  refine ACalls.fin (entry_Fold.go ?_)
  unfold entry_Fold.sh
  repeat' (first | with_reducible apply Stp.go | with_reducible refine imp fun _ => ?_ | (with_reducible refine hyp ?_ ?_; first | assumption | exact leftT_mem (by assumption)) | (with_reducible refine need ?_ ?_; first | trivial | omega | exact ⟨by assumption, by omega⟩ | (simp only [List.length_append, List.length_cons, List.length_nil, List.length_map, List.length_take, List.length_drop, List.length_replicate, List.length_set]; omega)) | (with_reducible refine fact ?_ ?_; first | trivial | exact ⟨rfl, rfl⟩ | kernel_rfl) | with_reducible refine choT (by assumption) ?_ | with_reducible refine choF (by assumption) ?_ | with_reducible refine choF' (by assumption) ?_ | (with_reducible refine altT ?_ ?_; first | omega | (simp only [List.length_append, List.length_cons, List.length_nil, List.length_map, List.length_take, List.length_drop, List.length_replicate, List.length_set]; omega)) | with_reducible refine altF ?_ | with_reducible refine all fun _ => ?_ | with_reducible refine both ?_ ?_ | (with_reducible refine choT ?_ ?_; omega) | (with_reducible refine choF ?_ ?_; omega) | with_reducible refine cho (fun _ => ?_) (fun _ => ?_))
  rename_i mb
  refine loopI (β := Nat × List (Nat × List UInt8 × En) × Nat) (fun x => x.1 ≤ l.length ∧ Tbl x.2.1 x.2.2 (foldE (l.take x.1)) ∧ x.2.1.length ≤ x.1) (fun x => [.val (.map (some mb)), .lst 4 (l.map En.av) m, I .i64 (l.length : Nat), I .i64 (x.1 : Nat)])
    (fun x => [.map mb (mkM keyS En.av x.2.1) x.2.2]) (fun x => l.length - x.1) (0, [], 0) ⟨Nat.zero_le _, Tbl.nil, Nat.le_refl _⟩ (Sub.refl _ _) ?_
  rintro ⟨i, L, c⟩ ⟨hi, ht, hL⟩
  dsimp only at hi ht hL ⊢
  have hF := foldE_rises (l.take i)
  by_cases hlt : i < l.length
  · have hs := foldE_take_succ hlt
    have hset := ht.set hF (e := l.getD i default)
    have hkeep := fun x => ht.keep hF (e := l.getD i default) (x := x)
    have hsl := setT_length (l.getD i default).key (l.getD i default) c L
    rw [← hs] at hset hkeep
    repeat' (first | with_reducible apply Stp.go | with_reducible refine imp fun _ => ?_ | (with_reducible refine hyp ?_ ?_; first | assumption | exact leftT_mem (by assumption)) | (with_reducible refine need ?_ ?_; first | trivial | omega | exact ⟨by assumption, by omega⟩ | (simp only [List.length_append, List.length_cons, List.length_nil, List.length_map, List.length_take, List.length_drop, List.length_replicate, List.length_set]; omega)) | (with_reducible refine fact ?_ ?_; first | trivial | exact ⟨rfl, rfl⟩ | kernel_rfl) | with_reducible refine choT (by assumption) ?_ | with_reducible refine choF (by assumption) ?_ | with_reducible refine choF' (by assumption) ?_ | (with_reducible refine altT ?_ ?_; first | omega | (simp only [List.length_append, List.length_cons, List.length_nil, List.length_map, List.length_take, List.length_drop, List.length_replicate, List.length_set]; omega)) | with_reducible refine altF ?_ | with_reducible refine all fun _ => ?_ | with_reducible refine both ?_ ?_ | (with_reducible refine choT ?_ ?_; omega) | (with_reducible refine choF ?_ ?_; omega) | with_reducible refine cho (fun _ => ?_) (fun _ => ?_))
    · rename_i h1 h2
      refine again (i + 1, setT (l.getD i default).key (l.getD i default) c L, bif hasT (l.getD i default).key L then c else c + 1) (by dsimp only; omega) ⟨by dsimp only; omega, hset fun x hx => by rw [hx] at h2; exact h2, by dsimp only; omega⟩ ?_
      exact subS _
    · rename_i h1 h2
      obtain ⟨x, hx⟩ := Option.isSome_iff_exists.1 h1
      rw [hx] at h2
      refine again (i + 1, L, c) (by dsimp only; omega) ⟨by dsimp only; omega, hkeep x hx h2, by dsimp only; omega⟩ ?_
      exact subS _
    · rename_i h1
      refine again (i + 1, setT (l.getD i default).key (l.getD i default) c L, bif hasT (l.getD i default).key L then c else c + 1) (by dsimp only; omega) ⟨by dsimp only; omega, hset fun x hx => by rw [hx] at h1; exact absurd rfl h1, by dsimp only; omega⟩ ?_
      exact subS _
  · have e : l.take i = l := List.take_of_length_le (by omega)
    rw [e] at ht hF
    repeat' (first | with_reducible apply Stp.go | with_reducible refine imp fun _ => ?_ | (with_reducible refine hyp ?_ ?_; first | assumption | exact leftT_mem (by assumption)) | (with_reducible refine need ?_ ?_; first | trivial | omega | exact ⟨by assumption, by omega⟩ | (simp only [List.length_append, List.length_cons, List.length_nil, List.length_map, List.length_take, List.length_drop, List.length_replicate, List.length_set]; omega)) | (with_reducible refine fact ?_ ?_; first | trivial | exact ⟨rfl, rfl⟩ | kernel_rfl) | with_reducible refine choT (by assumption) ?_ | with_reducible refine choF (by assumption) ?_ | with_reducible refine choF' (by assumption) ?_ | (with_reducible refine altT ?_ ?_; first | omega | (simp only [List.length_append, List.length_cons, List.length_nil, List.length_map, List.length_take, List.length_drop, List.length_replicate, List.length_set]; omega)) | with_reducible refine altF ?_ | with_reducible refine all fun _ => ?_ | with_reducible refine both ?_ ?_ | (with_reducible refine choT ?_ ?_; omega) | (with_reducible refine choF ?_ ?_; omega) | with_reducible refine cho (fun _ => ?_) (fun _ => ?_))
    rename_i v0 it
    refine loopI (β := Value × List En × List Nat) (fun x => (x.2.1 ++ (leftT L x.2.2).map (·.2.2)).Perm (L.map (·.2.2))) (fun x => [.own x.1 x.2.1.length, ptrAt it 0])
      (fun x => [.iter it mb c x.2.2 c, .row x.1 54 4 (x.2.1.map En.av) 0, .map mb (mkM keyS En.av L) c]) (fun x => (leftT L x.2.2).length) (v0, [], []) ?_ (Sub.refl _ _) ?_
    · dsimp only
      rw [left_nil]
      exact List.Perm.refl _
    · rintro ⟨v, o, seen⟩ hp
      dsimp only at hp ⊢
      have hol : o.length ≤ L.length := by
        have := hp.length_eq
        simp only [List.length_append, List.length_map] at this
        omega
      repeat' (first | with_reducible apply Stp.go | with_reducible refine imp fun _ => ?_ | (with_reducible refine hyp ?_ ?_; first | assumption | exact leftT_mem (by assumption)) | (with_reducible refine need ?_ ?_; first | trivial | omega | exact ⟨by assumption, by omega⟩ | (simp only [List.length_append, List.length_cons, List.length_nil, List.length_map, List.length_take, List.length_drop, List.length_replicate, List.length_set]; omega)) | (with_reducible refine fact ?_ ?_; first | trivial | exact ⟨rfl, rfl⟩ | kernel_rfl) | with_reducible refine choT (by assumption) ?_ | with_reducible refine choF (by assumption) ?_ | with_reducible refine choF' (by assumption) ?_ | (with_reducible refine altT ?_ ?_; first | omega | (simp only [List.length_append, List.length_cons, List.length_nil, List.length_map, List.length_take, List.length_drop, List.length_replicate, List.length_set]; omega)) | with_reducible refine altF ?_ | with_reducible refine all fun _ => ?_ | with_reducible refine both ?_ ?_ | (with_reducible refine choT ?_ ?_; omega) | (with_reducible refine choF ?_ ?_; omega) | with_reducible refine cho (fun _ => ?_) (fun _ => ?_))
      · rename_i h0 o' hq
        rw [h0, List.map_nil, List.append_nil] at hp
        have e1 : o' = foldE l := ht.sorted hF (hq.1.trans hp) hq.2
        have e2 : o.length = (foldE l).length := by rw [← e1]; exact hq.1.length_eq.symm
        subst e1
        exact ⟨_, _, _, rfl, subS _, v, by rw [e2], rfl⟩
      · rename_i x hx t w
        have hlt := left_take ht.nb hx
        refine again (w, o ++ [x.2.2], seen ++ [x.1]) ?_ ?_ ?_
        · have := hlt.length_eq
          simp only [List.length_cons] at this
          dsimp only
          omega
        · dsimp only
          rw [List.append_assoc]
          exact ((((hlt.map (·.2.2)).symm).append_left o)).trans hp
        · exact subS _
theorem Fold_pure (l : List En) (m : SM) (hl : l.length ≤ 1000000000) : aPure Go.Proofs.Try.prog 60 [.lst 4 (l.map En.av) m] (.lst 4 ((foldE l).map En.av) .ro) :=
  ACalls.fin ((Fold_ok l m hl).mono fun x τ ⟨v, e1, e2⟩ => ⟨_, _, _, e1, by rw [e2]; exact retOwn (Sub.refl _ _), rfl, rfl⟩)
instance {a : AV} {l : List En} {m : SM} [h : IsL a En.av 4 l m] : PC Go.Proofs.Try.prog 60 [a] (l.length ≤ 1000000000) (.lst 4 ((foldE l).map En.av) .ro) := ⟨fun hl => ⟨[.lst 4 (l.map En.av) m], ⟨h.sub, trivial⟩, Fold_pure l m hl⟩⟩
end Go.Ab

/- DeleteFunc of an own row; what writes come to. -/
set_option linter.unusedVariables false
set_option linter.unusedSimpArgs false
namespace Go.Ab
def slices_DeleteFunc.mark : Mark := ⟨fun t => false, fun t => false, fun t => false, fun t => false, fun t => Nat.beq t 10 || Nat.beq t 28⟩
def slices_DeleteFunc.ann : Ann := ⟨fun n => bif Nat.beq n 5 then [0, 1, 5, 6] else [], fun n => none, fun n => none⟩
/-- 'slices.DeleteFunc[[]marlstone/api.Entry,marlstone/api.Entry]' -/
def slices_DeleteFunc.sh (a0 a1 : AV) (σ : Store) (Q : AEnd → Store → Prop) : Prop :=
  Do (lookC Go.Proofs.Try.prog 96 [a0, a1] σ) fun t10 =>
  Do (aBin Go.Proofs.Try.prog .eql 3 t10 (.val (.int .i64 (-1)))) fun t12 =>
  aCond t12
    (Q (.ret a0) σ)
    (Do (aBin Go.Proofs.Try.prog .add 3 t10 (.val (.int .i64 1))) fun t15 =>
  aLoop (fun go vs σ =>
    At vs 0 fun s0 => At vs 1 fun s1 => At vs 2 fun s5 => At vs 3 fun s6 => Do (aBuiltin Go.Proofs.Try.prog .len #[22] [s0]) fun t18 =>
    Do (aBin Go.Proofs.Try.prog .lss 3 s6 t18) fun t19 =>
    aCond t19
      (Do (aIndexAddr .slice 4 s0 s6) fun t24 =>
    Do (loadA true 4 t24 σ) fun t25 =>
    aNewVar 54 [.val (.string ⟨#[]⟩), .val (.string ⟨#[]⟩), .val (.bool false), .val (.int .i64 0)] σ fun t7 σ_1 =>
    storeA 4 t7 t25 σ_1 fun u σ_2 =>
    Do (loadA true 4 t7 σ_2) fun t27 =>
    Do (lookV Go.Proofs.Try.prog s1 [t27] σ_2) fun t28 =>
    Do (aUn Go.Proofs.Try.prog .not t28) fun t29 =>
    aCond t29
      (Do (loadA true 4 t7 σ_2) fun t32 =>
      Do (aIndexAddr .slice 4 s0 s5) fun t33 =>
      storeA 4 t33 t32 σ_2 fun u_1 σ_3 =>
      Do (aBin Go.Proofs.Try.prog .add 3 s5 (.val (.int .i64 1))) fun t35 =>
      Do (aBin Go.Proofs.Try.prog .add 3 s6 (.val (.int .i64 1))) fun t21 =>
    go [s0, s1, t35, t21] σ_3)
      (Do (aBin Go.Proofs.Try.prog .add 3 s6 (.val (.int .i64 1))) fun t21_1 =>
    go [s0, s1, s5, t21_1] σ_2))
      (Do (aSlice .slice 4 s0 (some s5) none none) fun t38 =>
  aHook (eClear Go.Proofs.Try.prog 22 t38 σ) fun u_2 σ_4 =>
  Do (aSlice .slice 4 s0 none (some s5) none) fun t41 =>
  Q (.ret t41) σ_4))
    [a0, a1, t10, t15] σ)
theorem slices_DeleteFunc.eq (a0 a1 : AV) (σ : Store) (Q : AEnd → Store → Prop) : vc (semOf Go.Proofs.Try.prog slices_DeleteFunc.mark) Go.Proofs.Try.f55.ntmps slices_DeleteFunc.ann (bodyOf Go.Proofs.Try.f55) (endK [.tmp 4] Q) (argFr [a0, a1]) σ = slices_DeleteFunc.sh a0 a1 σ Q := by kernel_rfl
theorem slices_DeleteFunc.go {a0 a1 : AV} {σ : Store} {Q : AEnd → Store → Prop} (h : slices_DeleteFunc.sh a0 a1 σ Q) : ACalls Go.Proofs.Try.prog 55 [a0, a1] σ Q :=
  acalls_of_eq [.tmp 4] Go.Proofs.Try.func55 (by kernel_rfl) (by kernel_rfl) (by kernel_rfl) (by kernel_rfl) (slices_DeleteFunc.eq a0 a1 σ Q) h
instance : RowT Go.Proofs.Try.prog 22 54 [.string ⟨#[]⟩, .string ⟨#[]⟩, .bool false, .int .i64 0] 4 48 := ⟨by kernel_rfl⟩
theorem idx_cases (p : En → Bool) : ∀ l : List En, (idx p l = -1 ∧ l.filter (fun e => !p e) = l) ∨ ∃ i : Nat, idx p l = i ∧ i < l.length ∧ (l.take (i + 1)).filter (fun e => !p e) = l.take i
  | [] => .inl ⟨rfl, rfl⟩
  | a :: l => by
    by_cases ha : p a = true
    · refine .inr ⟨0, by simp [idx, ha], by simp, by simp [ha]⟩
    · rcases idx_cases p l with ⟨h1, h2⟩ | ⟨i, h1, h2, h3⟩
      · refine .inl ⟨by simp [idx, ha, h1], ?_⟩
        rw [List.filter_cons_of_pos (by simpa using ha), h2]
      · refine .inr ⟨i + 1, ?_, by simpa using h2, ?_⟩
        · simp only [idx, ha, Bool.false_eq_true, if_false, h1]
          rw [if_neg (by omega)]
          rfl
        · rw [List.take_succ_cons, List.filter_cons_of_pos (by simpa using ha), h3, List.take_succ_cons]
theorem Sub.own_sub {σ : Store} {v : Value} {n sz : Nat} {us us' : List AV} (h : Sub σ us σ us') : Sub σ (.own v n :: us) σ (.sub v sz 0 n :: us') := by
  refine Sub.trans (Sub.cons_same _ h) (Sub.vals ⟨fun R x hx => ?_, SubVs.refl _⟩)
  obtain ⟨rfl, hr⟩ := hx.own_inv
  refine .sub ?_
  rcases hr with ⟨rfl, rfl⟩ | ⟨g, cap, rfl, hle⟩
  · exact .inl ⟨rfl, rfl, rfl, rfl⟩
  · exact .inr ⟨g, n, cap, ⟨g, 0, none⟩, rfl, by omega, fun _ => by simp, rfl⟩
instance (priority := 40) predLook {g : AV} {p : En → Bool} [hg : Pred Go.Proofs.Try.prog g p] {e : En} {σ : Store} {K : AV → Prop} : Stp (Do (lookV Go.Proofs.Try.prog g [e.av] σ) K) (K (B (p e))) := ⟨fun hK => by
  obtain ⟨f, a, b, args1, h1, h2, h3⟩ := hg.h e
  refine ⟨_, ?_, hK⟩
  unfold lookV
  rw [h1]
  exact ⟨σ, args1, Sub.vals h2, h3, (inferInstance : Ground (B (p e))).g⟩⟩
theorem Delete_ok (g : AV) (p : En → Bool) (hg : Pred Go.Proofs.Try.prog g p) (l : List En) (v : Value) (hl : l.length ≤ 1000000000) : ACalls Go.Proofs.Try.prog 55 [.own v l.length, g] [.row v 54 4 (l.map En.av) 0]
    fun x σ' => ∃ l' : List En, (l'.length = l.length ∧ l'.take (l.filter fun e => !p e).length = l.filter fun e => !p e) ∧ x = .ret (.sub v 4 0 (l.filter fun e => !p e).length) ∧ σ' = [.row v 54 4 (l'.map En.av) 0] := by
  refine ACalls.fin (slices_DeleteFunc.go ?_)
  unfold slices_DeleteFunc.sh
  rcases idx_cases p l with ⟨h, hf⟩ | ⟨i0, h, hi0, hf⟩
  · repeat' (first | with_reducible apply Stp.go | with_reducible refine imp fun _ => ?_ | (with_reducible refine hyp ?_ ?_; first | assumption | exact leftT_mem (by assumption)) | (with_reducible refine need ?_ ?_; first | trivial | omega | exact ⟨by assumption, by omega⟩ | (simp only [List.length_append, List.length_cons, List.length_nil, List.length_map, List.length_take, List.length_drop, List.length_replicate, List.length_set]; omega)) | (with_reducible refine fact ?_ ?_; first | trivial | exact ⟨rfl, rfl⟩ | kernel_rfl) | with_reducible refine choT (by assumption) ?_ | with_reducible refine choF (by assumption) ?_ | with_reducible refine choF' (by assumption) ?_ | (with_reducible refine altT ?_ ?_; first | omega | (simp only [List.length_append, List.length_cons, List.length_nil, List.length_map, List.length_take, List.length_drop, List.length_replicate, List.length_set]; omega)) | with_reducible refine altF ?_ | with_reducible refine all fun _ => ?_ | with_reducible refine both ?_ ?_ | (with_reducible refine choT ?_ ?_; omega) | (with_reducible refine choF ?_ ?_; omega) | with_reducible refine cho (fun _ => ?_) (fun _ => ?_))
    · refine ⟨_, _, _, rfl, Sub.own_sub (sz := 4) (Sub.refl _ _), l, ⟨rfl, ?_⟩, ?_, rfl⟩
      · rw [hf, List.take_length]
      · rw [hf]
  · repeat' (first | with_reducible apply Stp.go | with_reducible refine imp fun _ => ?_ | (with_reducible refine hyp ?_ ?_; first | assumption | exact leftT_mem (by assumption)) | (with_reducible refine need ?_ ?_; first | trivial | omega | exact ⟨by assumption, by omega⟩ | (simp only [List.length_append, List.length_cons, List.length_nil, List.length_map, List.length_take, List.length_drop, List.length_replicate, List.length_set]; omega)) | (with_reducible refine fact ?_ ?_; first | trivial | exact ⟨rfl, rfl⟩ | kernel_rfl) | with_reducible refine choT (by assumption) ?_ | with_reducible refine choF (by assumption) ?_ | with_reducible refine choF' (by assumption) ?_ | (with_reducible refine altT ?_ ?_; first | omega | (simp only [List.length_append, List.length_cons, List.length_nil, List.length_map, List.length_take, List.length_drop, List.length_replicate, List.length_set]; omega)) | with_reducible refine altF ?_ | with_reducible refine all fun _ => ?_ | with_reducible refine both ?_ ?_ | (with_reducible refine choT ?_ ?_; omega) | (with_reducible refine choF ?_ ?_; omega) | with_reducible refine cho (fun _ => ?_) (fun _ => ?_))
    · rw [h]
      refine loopI (β := Nat × Nat × List En) (fun x => x.1 < x.2.1 ∧ x.2.1 ≤ l.length ∧ x.2.2.length = l.length ∧ x.2.2.drop x.2.1 = l.drop x.2.1 ∧ x.2.2.take x.1 = (l.take x.2.1).filter fun e => !p e)
        (fun x => [.own v l.length, g, I .i64 (x.1 : Nat), I .i64 (x.2.1 : Nat)]) (fun x => [.row v 54 4 (x.2.2.map En.av) 0]) (fun x => l.length - x.2.1) (i0, i0 + 1, l) ⟨by dsimp only; omega, by dsimp only; omega, rfl, rfl, hf.symm⟩ (Sub.refl _ _) ?_
      rintro ⟨i, j, l'⟩ ⟨h1, h2, h3, h4, h5⟩
      dsimp only at h1 h2 h3 h4 h5 ⊢
      by_cases hlt : j < l.length
      · have e1 : l'.getD j default = l.getD j default := by
          have := congrArg (fun x => x.getD 0 default) h4
          simpa [List.getD_eq_getElem?_getD, List.getElem?_drop] using this
        have e2 : (l.take (j + 1)).filter (fun e => !p e) = (l.take j).filter (fun e => !p e) ++ (if p (l.getD j default) = true then [] else [l.getD j default]) := by
          rw [take_succ_d hlt, List.filter_append]
          generalize l.getD j default = y
          cases hd : p y <;> simp [hd]
        have e3 : l'.drop (j + 1) = l.drop (j + 1) := by
          have := congrArg (List.drop 1) h4
          simpa [List.drop_drop] using this
        rw [← e1] at e2
        repeat' (first | with_reducible apply Stp.go | with_reducible refine imp fun _ => ?_ | (with_reducible refine hyp ?_ ?_; first | assumption | exact leftT_mem (by assumption)) | (with_reducible refine need ?_ ?_; first | trivial | omega | exact ⟨by assumption, by omega⟩ | (simp only [List.length_append, List.length_cons, List.length_nil, List.length_map, List.length_take, List.length_drop, List.length_replicate, List.length_set]; omega)) | (with_reducible refine fact ?_ ?_; first | trivial | exact ⟨rfl, rfl⟩ | kernel_rfl) | with_reducible refine choT (by assumption) ?_ | with_reducible refine choF (by assumption) ?_ | with_reducible refine choF' (by assumption) ?_ | (with_reducible refine altT ?_ ?_; first | omega | (simp only [List.length_append, List.length_cons, List.length_nil, List.length_map, List.length_take, List.length_drop, List.length_replicate, List.length_set]; omega)) | with_reducible refine altF ?_ | with_reducible refine all fun _ => ?_ | with_reducible refine both ?_ ?_ | (with_reducible refine choT ?_ ?_; omega) | (with_reducible refine choF ?_ ?_; omega) | with_reducible refine cho (fun _ => ?_) (fun _ => ?_))
        · rename_i hd
          refine again (i, j + 1, l') (by dsimp only; omega) ⟨by dsimp only; omega, by dsimp only; omega, h3, e3, ?_⟩ (subS _)
          rw [e2, if_pos hd, List.append_nil]
          exact h5
        · rename_i hd
          refine again (i + 1, j + 1, l'.set i (l'.getD j default)) (by dsimp only; omega) ⟨by dsimp only; omega, by dsimp only; omega, by simpa using h3, ?_, ?_⟩ (subS _)
          · dsimp only
            rw [List.drop_set, if_pos (by omega), e3]
          · dsimp only
            rw [e2, if_neg hd, ← h5, List.take_set, List.take_succ_eq_append_getElem (by omega), List.set_append]
            simp [List.length_take, Nat.min_eq_left (show i ≤ l'.length by omega)]
      · have hj : j = l.length := by omega
        subst hj
        rw [List.take_length] at h5
        have hi : (l.filter fun e => !p e).length = i := by rw [← h5]; simp; omega
        repeat' (first | with_reducible apply Stp.go | with_reducible refine imp fun _ => ?_ | (with_reducible refine hyp ?_ ?_; first | assumption | exact leftT_mem (by assumption)) | (with_reducible refine need ?_ ?_; first | trivial | omega | exact ⟨by assumption, by omega⟩ | (simp only [List.length_append, List.length_cons, List.length_nil, List.length_map, List.length_take, List.length_drop, List.length_replicate, List.length_set]; omega)) | (with_reducible refine fact ?_ ?_; first | trivial | exact ⟨rfl, rfl⟩ | kernel_rfl) | with_reducible refine choT (by assumption) ?_ | with_reducible refine choF (by assumption) ?_ | with_reducible refine choF' (by assumption) ?_ | (with_reducible refine altT ?_ ?_; first | omega | (simp only [List.length_append, List.length_cons, List.length_nil, List.length_map, List.length_take, List.length_drop, List.length_replicate, List.length_set]; omega)) | with_reducible refine altF ?_ | with_reducible refine all fun _ => ?_ | with_reducible refine both ?_ ?_ | (with_reducible refine choT ?_ ?_; omega) | (with_reducible refine choF ?_ ?_; omega) | with_reducible refine cho (fun _ => ?_) (fun _ => ?_))
        refine ⟨_, _, _, rfl, Sub.refl _ _, _, ⟨?_, ?_⟩, by rw [hi], rfl⟩
        · simp only [List.length_append, List.length_take, List.length_replicate, List.length_drop]
          omega
        · rw [hi, List.append_assoc, List.take_append_of_le_length (by simp; omega), List.take_take, Nat.min_self, h5]
instance {g : AV} {p : En → Bool} [hg : Pred Go.Proofs.Try.prog g p] {l : List En} {v : Value} {n : Nat} {σ : Store} : EQ Go.Proofs.Try.prog 55 [.own v n, g] (.row v 54 4 (l.map En.av) 0 :: σ) (n = l.length ∧ l.length ≤ 1000000000) (List En)
    (fun l' => l'.length = l.length ∧ l'.take (l.filter fun e => !p e).length = l.filter fun e => !p e) (fun _ => .sub v 4 0 (l.filter fun e => !p e).length) (fun l' => .row v 54 4 (l'.map En.av) 0 :: σ) := ⟨fun ⟨h1, h2⟩ => by
  subst h1
  exact ((Delete_ok g p hg l v h2).frame σ).mono fun x τ ⟨σ1, e1, _, y, e2, e3, e4⟩ => ⟨y, e2, e3, by rw [e1, e4]; rfl⟩⟩
end Go.Ab

/- Reading numbers and texts. -/
set_option linter.unusedVariables false
set_option linter.unusedSimpArgs false
namespace Go.Ab
def codec_Get.mark : Mark := ⟨fun t => false, fun t => false, fun t => false, fun t => Nat.beq t 18, fun t => false⟩
def codec_Get.ann : Ann := ⟨fun n => bif Nat.beq n 3 then [5, 12, 13, 14] else [], fun n => none, fun n => none⟩
/-- 'marlstone/codec.Get' -/
def codec_Get.sh (a0 : AV) (σ : Store) (Q : AEnd → Store → Prop) : Prop :=
  Do (aBuiltin Go.Proofs.Try.prog .len #[27] [a0]) fun t10 =>
  Do (aBuiltin Go.Proofs.Try.prog .min #[3, 3] [t10, (.val (.int .i64 10))]) fun t11 =>
  Do (aSlice .slice 1 a0 none (some t11) none) fun t12 =>
  Do (aBuiltin Go.Proofs.Try.prog .len #[27] [t12]) fun t13 =>
  aLoop (fun go vs σ =>
    At vs 0 fun s5 => At vs 1 fun s12 => At vs 2 fun s13 => At vs 3 fun s14 => Do (aBin Go.Proofs.Try.prog .lss 3 s14 s13) fun t15 =>
    aCond t15
      (Do (aIndexAddr .slice 1 s12 s14) fun t17 =>
    Do (loadF false 1 t17) fun t18 =>
    Do (aBin Go.Proofs.Try.prog .eql 3 s14 (.val (.int .i64 9))) fun t20 =>
    Do (aGuard t20 true (aIs t18)) fun t22 =>
    Do (aGuard t20 true (aBin Go.Proofs.Try.prog .gtr 5 t22 (W8 1))) fun t23 =>
    Do (aPick t20 t23 (.val (.bool false))) fun t24 =>
    Do (aGuard t24 false (aIs s14)) fun t26 =>
    Do (aGuard t24 false (aBin Go.Proofs.Try.prog .gtr 3 t26 (.val (.int .i64 0)))) fun t27 =>
    Do (aGuard t24 false (aIs t27)) fun t28 =>
    Do (aGuard t28 true (aIs t18)) fun t29 =>
    Do (aGuard t28 true (aBin Go.Proofs.Try.prog .eql 5 t29 (W8 0))) fun t30 =>
    Do (aGuard t24 false (aPick t28 t30 (.val (.bool false)))) fun t31 =>
    Do (aPick t24 (.val (.bool true)) t31) fun t32 =>
    aCond t32
      (Q (.ret (.tuple [(W64 0), (.val (.int .i64 0)), (.val (.bool false))])) σ)
      (Do (aBin Go.Proofs.Try.prog .and 5 t18 (W8 127)) fun t35 =>
    Do (fun x => aConvN 5 143 t35 x Go.Proofs.Try.prog) fun t36 =>
    Do (aBin Go.Proofs.Try.prog .mul 3 (.val (.int .i64 7)) s14) fun t38 =>
    Do (aBin Go.Proofs.Try.prog .shl 143 t36 t38) fun t39 =>
    Do (aBin Go.Proofs.Try.prog .or 143 s5 t39) fun t40 =>
    Do (aBin Go.Proofs.Try.prog .lss 5 t18 (W8 128)) fun t42 =>
    aCond t42
      (Do (aBin Go.Proofs.Try.prog .add 3 s14 (.val (.int .i64 1))) fun t45 =>
      Q (.ret (.tuple [t40, t45, (.val (.bool true))])) σ)
      (Do (aBin Go.Proofs.Try.prog .add 3 s14 (.val (.int .i64 1))) fun t46 =>
    go [t40, s12, s13, t46] σ)))
      (Q (.ret (.tuple [(W64 0), (.val (.int .i64 0)), (.val (.bool false))])) σ))
    [(W64 0), t12, t13, (.val (.int .i64 0))] σ
theorem codec_Get.eq (a0 : AV) (σ : Store) (Q : AEnd → Store → Prop) : vc (semOf Go.Proofs.Try.prog codec_Get.mark) Go.Proofs.Try.f128.ntmps codec_Get.ann (bodyOf Go.Proofs.Try.f128) (endK [.tmp 2, .tmp 3, .tmp 4] Q) (argFr [a0]) σ = codec_Get.sh a0 σ Q := by kernel_rfl
theorem codec_Get.go {a0 : AV} {σ : Store} {Q : AEnd → Store → Prop} (h : codec_Get.sh a0 σ Q) : ACalls Go.Proofs.Try.prog 128 [a0] σ Q :=
  acalls_of_eq [.tmp 2, .tmp 3, .tmp 4] Go.Proofs.Try.func128 (by kernel_rfl) (by kernel_rfl) (by kernel_rfl) (by kernel_rfl) (codec_Get.eq a0 σ Q) h
def ref01_Get.mark : Mark := ⟨fun t => false, fun t => false, fun t => false, fun t => false, fun t => false⟩
def ref01_Get.ann : Ann := ⟨fun n => bif Nat.beq n 3 then [0, 5, 6] else [], fun n => none, fun n => none⟩
theorem getT (s : List UInt8) {i : Nat} (h : i < s.length) (v : Nat) : getA (s.drop i) i v = (if 10 ≤ i ∨ (i = 9 ∧ 1 < (s.getD i 0).toNat) ∨ (0 < i ∧ (s.getD i 0).toNat = 0) then none
    else if (s.getD i 0).toNat < 128 then some (v + (s.getD i 0).toNat % 128 * 128 ^ i, i + 1) else getA (s.drop (i + 1)) (i + 1) (v + (s.getD i 0).toNat % 128 * 128 ^ i)) := by
  have e := drop_cons_d h
  have e2 : s.getD i default = s.getD i 0 := rfl
  rw [e, e2, getA]
theorem g_fail {l : List UInt8} (h : getG l = none) : AEnd.ret (.tuple [W64 0, I .i64 0, B false]) = .ret (.tuple [W64 (UInt64.ofNat (getV l)), I .i64 (getN l : Nat), B (getO l)]) := by
  simp [getV, getN, getO, h]
theorem g_done {l : List UInt8} {x : UInt64} {n : Nat} (h : getG l = some (x.toNat, n)) : AEnd.ret (.tuple [W64 x, I .i64 (n : Nat), B true]) = .ret (.tuple [W64 (UInt64.ofNat (getV l)), I .i64 (getN l : Nat), B (getO l)]) := by
  simp [getV, getN, getO, h]
theorem and127 (c : UInt8) : (c &&& 127).toNat = c.toNat % 128 := by
  rw [UInt8.toNat_and]
  exact Nat.and_two_pow_sub_one_eq_mod c.toNat 7
theorem pow_step {v c i : Nat} (hv : v < 128 ^ i) (hc : c < 128) : v + c * 128 ^ i < 128 ^ (i + 1) := by
  have h1 : c * 128 ^ i ≤ 127 * 128 ^ i := Nat.mul_le_mul_right _ (by omega)
  rw [Nat.pow_succ]
  omega
theorem codec_Get_ok (l : List UInt8) (m : SM) (hl : l.length ≤ 1000000000000000) : aPure Go.Proofs.Try.prog 128 [.lst 1 (l.map byt) m] (.tuple [W64 (UInt64.ofNat (getV l)), I .i64 (getN l : Nat), B (getO l)]) := by
  refine codec_Get.go ?_
  unfold codec_Get.sh
  repeat' (first | with_reducible apply Stp.go | with_reducible refine imp fun _ => ?_ | (with_reducible refine hyp ?_ ?_; first | assumption | exact leftT_mem (by assumption)) | (with_reducible refine need ?_ ?_; first | trivial | omega | exact ⟨by assumption, by omega⟩ | (simp only [List.length_append, List.length_cons, List.length_nil, List.length_map, List.length_take, List.length_drop, List.length_replicate, List.length_set]; omega)) | (with_reducible refine fact ?_ ?_; first | trivial | exact ⟨rfl, rfl⟩ | kernel_rfl) | with_reducible refine choT (by assumption) ?_ | with_reducible refine choF (by assumption) ?_ | with_reducible refine choF' (by assumption) ?_ | (with_reducible refine altT ?_ ?_; first | omega | (simp only [List.length_append, List.length_cons, List.length_nil, List.length_map, List.length_take, List.length_drop, List.length_replicate, List.length_set]; omega)) | with_reducible refine altF ?_ | with_reducible refine all fun _ => ?_ | with_reducible refine both ?_ ?_ | (with_reducible refine choT ?_ ?_; omega) | (with_reducible refine choF ?_ ?_; omega) | with_reducible refine cho (fun _ => ?_) (fun _ => ?_))
  refine loopI (β := Nat × UInt64) (fun x => x.1 ≤ min l.length 10 ∧ x.2.toNat < 128 ^ x.1 ∧ getG l = getA (l.drop x.1) x.1 x.2.toNat) (fun x => [W64 x.2, .lst 1 ((l.take (min l.length 10)).map byt) .ro, I .i64 (min l.length 10 : Nat), I .i64 (x.1 : Nat)]) (fun _ => []) (fun x => min l.length 10 - x.1) (0, 0) ⟨Nat.zero_le _, by decide, rfl⟩ ?_ ?_
  · rw [List.length_take, Nat.min_eq_left (Nat.min_le_left _ _)]
    exact Sub.refl _ _
  rintro ⟨i, w⟩ ⟨hi, hw, hg⟩
  dsimp only at hi hw hg ⊢
  by_cases hlt : i < min l.length 10
  · rw [getT l (by omega)] at hg
    have ht : (l.take (min l.length 10)).getD i default = l.getD i 0 := by rw [List.getD_eq_getElem?_getD, List.getD_eq_getElem?_getD, List.getElem?_take, if_pos hlt]; rfl
    have hb := fun h9 => or_bits (c := (l.getD i 0).toNat % 128) (i := i) (w := w) (by omega) hw (Nat.mod_lt _ (by decide)) h9
    have hp := pow_step (c := (l.getD i 0).toNat % 128) hw (Nat.mod_lt _ (by decide))
    repeat' (first | with_reducible apply Stp.go | with_reducible refine imp fun _ => ?_ | (with_reducible refine hyp ?_ ?_; first | assumption | exact leftT_mem (by assumption)) | (with_reducible refine need ?_ ?_; first | trivial | omega | exact ⟨by assumption, by omega⟩ | (simp only [List.length_append, List.length_cons, List.length_nil, List.length_map, List.length_take, List.length_drop, List.length_replicate, List.length_set]; omega)) | (with_reducible refine fact ?_ ?_; first | trivial | exact ⟨rfl, rfl⟩ | kernel_rfl) | with_reducible refine choT (by assumption) ?_ | with_reducible refine choF (by assumption) ?_ | with_reducible refine choF' (by assumption) ?_ | (with_reducible refine altT ?_ ?_; first | omega | (simp only [List.length_append, List.length_cons, List.length_nil, List.length_map, List.length_take, List.length_drop, List.length_replicate, List.length_set]; omega)) | with_reducible refine altF ?_ | with_reducible refine all fun _ => ?_ | with_reducible refine both ?_ ?_ | (with_reducible refine choT ?_ ?_; omega) | (with_reducible refine choF ?_ ?_; omega) | with_reducible refine cho (fun _ => ?_) (fun _ => ?_))
    all_goals simp only [ht, and127] at *
    all_goals
      first
      | (refine ⟨g_fail ?_, by trivial⟩; rw [hg, if_pos (by omega)])
      | (refine ⟨g_done ?_, by trivial⟩; rw [hg, if_neg (by omega), if_pos (by omega), hb (by omega)])
      | (rw [if_neg (by omega), if_neg (by omega), ← hb (by omega)] at hg
         rw [← hb (by omega)] at hp
         exact again (i + 1, _) (by dsimp only; omega) ⟨by dsimp only; omega, hp, hg⟩ (Sub.refl _ _))
  · have hn : getG l = none := by
      rw [hg]
      rcases Nat.lt_or_ge i 10 with h | h
      · rw [List.drop_eq_nil_of_le (by omega)]
        rfl
      · exact getA_ge _ _ h
    repeat' (first | with_reducible apply Stp.go | with_reducible refine imp fun _ => ?_ | (with_reducible refine hyp ?_ ?_; first | assumption | exact leftT_mem (by assumption)) | (with_reducible refine need ?_ ?_; first | trivial | omega | exact ⟨by assumption, by omega⟩ | (simp only [List.length_append, List.length_cons, List.length_nil, List.length_map, List.length_take, List.length_drop, List.length_replicate, List.length_set]; omega)) | (with_reducible refine fact ?_ ?_; first | trivial | exact ⟨rfl, rfl⟩ | kernel_rfl) | with_reducible refine choT (by assumption) ?_ | with_reducible refine choF (by assumption) ?_ | with_reducible refine choF' (by assumption) ?_ | (with_reducible refine altT ?_ ?_; first | omega | (simp only [List.length_append, List.length_cons, List.length_nil, List.length_map, List.length_take, List.length_drop, List.length_replicate, List.length_set]; omega)) | with_reducible refine altF ?_ | with_reducible refine all fun _ => ?_ | with_reducible refine both ?_ ?_ | (with_reducible refine choT ?_ ?_; omega) | (with_reducible refine choF ?_ ?_; omega) | with_reducible refine cho (fun _ => ?_) (fun _ => ?_))
    exact ⟨g_fail hn, by trivial⟩
instance {a : AV} {l : List UInt8} {m : SM} [h : IsL a byt 1 l m] : PC Go.Proofs.Try.prog 128 [a] (l.length ≤ 1000000000000000) (.tuple [W64 (UInt64.ofNat (getV l)), I .i64 (getN l : Nat), B (getO l)]) := ⟨fun hl => ⟨[.lst 1 (l.map byt) m], ⟨h.sub, trivial⟩, codec_Get_ok l m hl⟩⟩
def codec_Text.mark : Mark := ⟨fun t => Nat.beq t 11, fun t => false, fun t => false, fun t => false, fun t => false⟩
def codec_Text.ann : Ann := ⟨fun n => [], fun n => none, fun n => none⟩
/-- 'marlstone/codec.Text' -/
def codec_Text.sh (a0 : AV) (σ : Store) (Q : AEnd → Store → Prop) : Prop :=
  Do (aPureC Go.Proofs.Try.prog 128 [a0]) fun t11 =>
  Do (aExt t11 0) fun t12 =>
  Do (aExt t11 1) fun t13 =>
  Do (aExt t11 2) fun t14 =>
  Do (aUn Go.Proofs.Try.prog .not t14) fun t16 =>
  Do (aGuard t16 false (aIs t12)) fun t18 =>
  Do (aGuard t16 false (aIs a0)) fun t19 =>
  Do (aGuard t16 false (aBuiltin Go.Proofs.Try.prog .len #[27] [t19])) fun t20 =>
  Do (aGuard t16 false (aIs t13)) fun t21 =>
  Do (aGuard t16 false (aBin Go.Proofs.Try.prog .sub 3 t20 t21)) fun t22 =>
  Do (aGuard t16 false (fun x => aConvN 3 143 t22 x Go.Proofs.Try.prog)) fun t23 =>
  Do (aGuard t16 false (aBin Go.Proofs.Try.prog .gtr 143 t18 t23)) fun t24 =>
  Do (aPick t16 (.val (.bool true)) t24) fun t25 =>
  aCond t25
    (Q (.ret (.tuple [(.val (.string ⟨#[]⟩)), (.val (.int .i64 0)), (.val (.bool false))])) σ)
    (Do (fun x => aConvN 143 3 t12 x Go.Proofs.Try.prog) fun t28 =>
  Do (aBin Go.Proofs.Try.prog .add 3 t13 t28) fun t29 =>
  Do (aSlice .slice 1 a0 (some t13) (some t29) none) fun t33 =>
  Do (aConvBS t33) fun t34 =>
  Q (.ret (.tuple [t34, t29, (.val (.bool true))])) σ)
theorem codec_Text.eq (a0 : AV) (σ : Store) (Q : AEnd → Store → Prop) : vc (semOf Go.Proofs.Try.prog codec_Text.mark) Go.Proofs.Try.f129.ntmps codec_Text.ann (bodyOf Go.Proofs.Try.f129) (endK [.tmp 2, .tmp 3, .tmp 4] Q) (argFr [a0]) σ = codec_Text.sh a0 σ Q := by kernel_rfl
theorem codec_Text.go {a0 : AV} {σ : Store} {Q : AEnd → Store → Prop} (h : codec_Text.sh a0 σ Q) : ACalls Go.Proofs.Try.prog 129 [a0] σ Q :=
  acalls_of_eq [.tmp 2, .tmp 3, .tmp 4] Go.Proofs.Try.func129 (by kernel_rfl) (by kernel_rfl) (by kernel_rfl) (by kernel_rfl) (codec_Text.eq a0 σ Q) h
def ref01_Text.mark : Mark := ⟨fun t => Nat.beq t 10, fun t => false, fun t => false, fun t => false, fun t => false⟩
def ref01_Text.ann : Ann := ⟨fun n => [], fun n => none, fun n => none⟩
theorem textG_eq (l : List UInt8) : textG l = if getO l = true then (if l.length - getN l < getV l then none else some ((l.drop (getN l)).take (getV l), getN l + getV l)) else none := by
  unfold textG getO getN getV
  cases getG l with
  | none => rfl
  | some r => rfl
theorem t_fail {l : List UInt8} (h : textG l = none) : AEnd.ret (.tuple [.val (.string ⟨#[]⟩), I .i64 0, B false]) = .ret (.tuple [S (textV l), I .i64 (textN l : Nat), B (textO l)]) := by
  simp [textV, textN, textO, h]
theorem t_done {l t : List UInt8} {n : Nat} (h : textG l = some (t, n)) : AEnd.ret (.tuple [S t, I .i64 (n : Nat), B true]) = .ret (.tuple [S (textV l), I .i64 (textN l : Nat), B (textO l)]) := by
  simp [textV, textN, textO, h]
theorem codec_Text_ok (l : List UInt8) (m : SM) (hl : l.length ≤ 1000000000000000) : aPure Go.Proofs.Try.prog 129 [.lst 1 (l.map byt) m] (.tuple [S (textV l), I .i64 (textN l : Nat), B (textO l)]) := by
  refine codec_Text.go ?_
  unfold codec_Text.sh
  obtain ⟨b1, b2, b3, b4⟩ := get_bound (s := l)
  have hu := u64_len b1
  repeat' (first | with_reducible apply Stp.go | with_reducible refine imp fun _ => ?_ | (with_reducible refine hyp ?_ ?_; first | assumption | exact leftT_mem (by assumption)) | (with_reducible refine need ?_ ?_; first | trivial | omega | exact ⟨by assumption, by omega⟩ | (simp only [List.length_append, List.length_cons, List.length_nil, List.length_map, List.length_take, List.length_drop, List.length_replicate, List.length_set]; omega)) | (with_reducible refine fact ?_ ?_; first | trivial | exact ⟨rfl, rfl⟩ | kernel_rfl) | with_reducible refine choT (by assumption) ?_ | with_reducible refine choF (by assumption) ?_ | with_reducible refine choF' (by assumption) ?_ | (with_reducible refine altT ?_ ?_; first | omega | (simp only [List.length_append, List.length_cons, List.length_nil, List.length_map, List.length_take, List.length_drop, List.length_replicate, List.length_set]; omega)) | with_reducible refine altF ?_ | with_reducible refine all fun _ => ?_ | with_reducible refine both ?_ ?_ | (with_reducible refine choT ?_ ?_; omega) | (with_reducible refine choF ?_ ?_; omega) | with_reducible refine cho (fun _ => ?_) (fun _ => ?_))
  · rename_i h1 h2
    refine ⟨t_fail ?_, rfl⟩
    rw [textG_eq, if_pos h1, if_pos (by omega)]
  · rename_i h1 h2
    rw [Nat.mod_eq_of_lt b1]
    refine ⟨t_done ?_, rfl⟩
    rw [textG_eq, if_pos h1, if_neg (by omega), List.drop_take, Nat.add_sub_cancel_left]
  · rename_i h1
    refine ⟨t_fail ?_, rfl⟩
    rw [textG_eq, if_neg h1]
instance {a : AV} {l : List UInt8} {m : SM} [h : IsL a byt 1 l m] : PC Go.Proofs.Try.prog 129 [a] (l.length ≤ 1000000000000000) (.tuple [S (textV l), I .i64 (textN l : Nat), B (textO l)]) := ⟨fun hl => ⟨[.lst 1 (l.map byt) m], ⟨h.sub, trivial⟩, codec_Text_ok l m hl⟩⟩
end Go.Ab

/- Reading an entry. -/
set_option linter.unusedVariables false
set_option linter.unusedSimpArgs false
namespace Go.Ab
def entry_reader_number.mark : Mark := ⟨fun t => Nat.beq t 16, fun t => false, fun t => false, fun t => false, fun t => false⟩
def entry_reader_number.ann : Ann := ⟨fun n => [], fun n => none, fun n => none⟩
/-- '(*marlstone/entry.reader).number' -/
def entry_reader_number.sh (a0 : AV) (σ : Store) (Q : AEnd → Store → Prop) : Prop :=
  Do (aNil a0) fun t8 =>
  Do (aFieldAddr 0 1 t8) fun t9 =>
  Do (loadA false 1 t9 σ) fun t10 =>
  Do (aNil a0) fun t12 =>
  Do (aFieldAddr 1 1 t12) fun t13 =>
  Do (loadA false 1 t13 σ) fun t14 =>
  Do (aSlice .slice 1 t10 (some t14) none none) fun t15 =>
  Do (aPureC Go.Proofs.Try.prog 128 [t15]) fun t16 =>
  Do (aExt t16 0) fun t17 =>
  Do (aExt t16 1) fun t18 =>
  Do (aExt t16 2) fun t19 =>
  Do (aNil a0) fun t21 =>
  Do (aFieldAddr 1 1 t21) fun t22 =>
  Do (loadA false 1 t22 σ) fun t23 =>
  Do (aBin Go.Proofs.Try.prog .add 3 t23 t18) fun t25 =>
  Do (aNil a0) fun t26 =>
  Do (aFieldAddr 1 1 t26) fun t27 =>
  storeA 1 t27 t25 σ fun u σ =>
  Do (aNil a0) fun t30 =>
  Do (aFieldAddr 2 1 t30) fun t31 =>
  Do (loadA false 1 t31 σ) fun t32 =>
  Do (aGuard t32 false (aIs t19)) fun t34 =>
  Do (aGuard t32 false (aUn Go.Proofs.Try.prog .not t34)) fun t35 =>
  Do (aPick t32 (.val (.bool true)) t35) fun t36 =>
  Do (aNil a0) fun t37 =>
  Do (aFieldAddr 2 1 t37) fun t38 =>
  storeA 1 t38 t36 σ fun u_1 σ_1 =>
  Q (.ret t17) σ_1
theorem entry_reader_number.eq (a0 : AV) (σ : Store) (Q : AEnd → Store → Prop) : vc (semOf Go.Proofs.Try.prog entry_reader_number.mark) Go.Proofs.Try.f114.ntmps entry_reader_number.ann (bodyOf Go.Proofs.Try.f114) (endK [.tmp 2] Q) (argFr [a0]) σ = entry_reader_number.sh a0 σ Q := by kernel_rfl
theorem entry_reader_number.go {a0 : AV} {σ : Store} {Q : AEnd → Store → Prop} (h : entry_reader_number.sh a0 σ Q) : ACalls Go.Proofs.Try.prog 114 [a0] σ Q :=
  acalls_of_eq [.tmp 2] Go.Proofs.Try.func114 (by kernel_rfl) (by kernel_rfl) (by kernel_rfl) (by kernel_rfl) (entry_reader_number.eq a0 σ Q) h
def entry_reader_text.mark : Mark := ⟨fun t => Nat.beq t 16, fun t => false, fun t => false, fun t => false, fun t => false⟩
def entry_reader_text.ann : Ann := ⟨fun n => [], fun n => none, fun n => none⟩
/-- '(*marlstone/entry.reader).text' -/
def entry_reader_text.sh (a0 : AV) (σ : Store) (Q : AEnd → Store → Prop) : Prop :=
  Do (aNil a0) fun t8 =>
  Do (aFieldAddr 0 1 t8) fun t9 =>
  Do (loadA false 1 t9 σ) fun t10 =>
  Do (aNil a0) fun t12 =>
  Do (aFieldAddr 1 1 t12) fun t13 =>
  Do (loadA false 1 t13 σ) fun t14 =>
  Do (aSlice .slice 1 t10 (some t14) none none) fun t15 =>
  Do (aPureC Go.Proofs.Try.prog 129 [t15]) fun t16 =>
  Do (aExt t16 0) fun t17 =>
  Do (aExt t16 1) fun t18 =>
  Do (aExt t16 2) fun t19 =>
  Do (aNil a0) fun t21 =>
  Do (aFieldAddr 1 1 t21) fun t22 =>
  Do (loadA false 1 t22 σ) fun t23 =>
  Do (aBin Go.Proofs.Try.prog .add 3 t23 t18) fun t25 =>
  Do (aNil a0) fun t26 =>
  Do (aFieldAddr 1 1 t26) fun t27 =>
  storeA 1 t27 t25 σ fun u σ =>
  Do (aNil a0) fun t30 =>
  Do (aFieldAddr 2 1 t30) fun t31 =>
  Do (loadA false 1 t31 σ) fun t32 =>
  Do (aGuard t32 false (aIs t19)) fun t34 =>
  Do (aGuard t32 false (aUn Go.Proofs.Try.prog .not t34)) fun t35 =>
  Do (aPick t32 (.val (.bool true)) t35) fun t36 =>
  Do (aNil a0) fun t37 =>
  Do (aFieldAddr 2 1 t37) fun t38 =>
  storeA 1 t38 t36 σ fun u_1 σ_1 =>
  Q (.ret t17) σ_1
theorem entry_reader_text.eq (a0 : AV) (σ : Store) (Q : AEnd → Store → Prop) : vc (semOf Go.Proofs.Try.prog entry_reader_text.mark) Go.Proofs.Try.f115.ntmps entry_reader_text.ann (bodyOf Go.Proofs.Try.f115) (endK [.tmp 2] Q) (argFr [a0]) σ = entry_reader_text.sh a0 σ Q := by kernel_rfl
theorem entry_reader_text.go {a0 : AV} {σ : Store} {Q : AEnd → Store → Prop} (h : entry_reader_text.sh a0 σ Q) : ACalls Go.Proofs.Try.prog 115 [a0] σ Q :=
  acalls_of_eq [.tmp 2] Go.Proofs.Try.func115 (by kernel_rfl) (by kernel_rfl) (by kernel_rfl) (by kernel_rfl) (entry_reader_text.eq a0 σ Q) h
theorem number_ok (b : Nat) (l : List UInt8) (m : SM) (at_ : Nat) (w : Bool) (hl : l.length ≤ 1000000000000000) (ha : at_ ≤ l.length) : ACalls Go.Proofs.Try.prog 114 [ptrAt b 0] [.var b 158 [.lst 1 (l.map byt) m, I .i64 (at_ : Nat), B w]]
    fun x σ' => x = .ret (W64 (UInt64.ofNat (getV (l.drop at_)))) ∧ σ' = [.var b 158 [.lst 1 (l.map byt) m, I .i64 ((at_ + getN (l.drop at_) : Nat) : Int), B (w || !getO (l.drop at_))]] := by
  refine entry_reader_number.go ?_
  unfold entry_reader_number.sh
  obtain ⟨b1, b2, b3, b4⟩ := get_bound (s := l.drop at_)
  rw [List.length_drop] at b3
  repeat' (first | with_reducible apply Stp.go | with_reducible refine imp fun _ => ?_ | (with_reducible refine hyp ?_ ?_; first | assumption | exact leftT_mem (by assumption)) | (with_reducible refine need ?_ ?_; first | trivial | omega | exact ⟨by assumption, by omega⟩ | (simp only [List.length_append, List.length_cons, List.length_nil, List.length_map, List.length_take, List.length_drop, List.length_replicate, List.length_set]; omega)) | (with_reducible refine fact ?_ ?_; first | trivial | exact ⟨rfl, rfl⟩ | kernel_rfl) | with_reducible refine choT (by assumption) ?_ | with_reducible refine choF (by assumption) ?_ | with_reducible refine choF' (by assumption) ?_ | (with_reducible refine altT ?_ ?_; first | omega | (simp only [List.length_append, List.length_cons, List.length_nil, List.length_map, List.length_take, List.length_drop, List.length_replicate, List.length_set]; omega)) | with_reducible refine altF ?_ | with_reducible refine all fun _ => ?_ | with_reducible refine both ?_ ?_ | (with_reducible refine choT ?_ ?_; omega) | (with_reducible refine choF ?_ ?_; omega) | with_reducible refine cho (fun _ => ?_) (fun _ => ?_))
  all_goals
    refine ⟨rfl, ?_⟩
    simp_all
instance {b at_ : Nat} {l : List UInt8} {m : SM} {w : Bool} {x : Int} {σ rest : Store} {put : Ent → Store} [hv : VarAt b σ 158 [.lst 1 (l.map byt) m, .val (.int .i64 x), B w] put rest] [hx : NatOf x at_] : EC Go.Proofs.Try.prog 114 [ptrAt b 0] σ (l.length ≤ 1000000000000000 ∧ at_ ≤ l.length) Unit
    (fun _ => W64 (UInt64.ofNat (getV (l.drop at_)))) (fun _ => put (.var b 158 [.lst 1 (l.map byt) m, I .i64 ((at_ + getN (l.drop at_) : Nat) : Int), B (w || !getO (l.drop at_))])) := ⟨fun ⟨h1, h2⟩ => by
  have e := hx.eq
  subst e
  exact (ACalls.at_ (number_ok b l m at_ w h1 h2)).mono fun x σ' ⟨g1, g2⟩ => ⟨(), g1, g2⟩⟩
theorem text_ok (b : Nat) (l : List UInt8) (m : SM) (at_ : Nat) (w : Bool) (hl : l.length ≤ 1000000000000000) (ha : at_ ≤ l.length) : ACalls Go.Proofs.Try.prog 115 [ptrAt b 0] [.var b 158 [.lst 1 (l.map byt) m, I .i64 (at_ : Nat), B w]]
    fun x σ' => x = .ret (S (textV (l.drop at_))) ∧ σ' = [.var b 158 [.lst 1 (l.map byt) m, I .i64 ((at_ + textN (l.drop at_) : Nat) : Int), B (w || !textO (l.drop at_))]] := by
  refine entry_reader_text.go ?_
  unfold entry_reader_text.sh
  obtain ⟨b1, b2, b3⟩ := text_bound (s := l.drop at_)
  rw [List.length_drop] at b1
  repeat' (first | with_reducible apply Stp.go | with_reducible refine imp fun _ => ?_ | (with_reducible refine hyp ?_ ?_; first | assumption | exact leftT_mem (by assumption)) | (with_reducible refine need ?_ ?_; first | trivial | omega | exact ⟨by assumption, by omega⟩ | (simp only [List.length_append, List.length_cons, List.length_nil, List.length_map, List.length_take, List.length_drop, List.length_replicate, List.length_set]; omega)) | (with_reducible refine fact ?_ ?_; first | trivial | exact ⟨rfl, rfl⟩ | kernel_rfl) | with_reducible refine choT (by assumption) ?_ | with_reducible refine choF (by assumption) ?_ | with_reducible refine choF' (by assumption) ?_ | (with_reducible refine altT ?_ ?_; first | omega | (simp only [List.length_append, List.length_cons, List.length_nil, List.length_map, List.length_take, List.length_drop, List.length_replicate, List.length_set]; omega)) | with_reducible refine altF ?_ | with_reducible refine all fun _ => ?_ | with_reducible refine both ?_ ?_ | (with_reducible refine choT ?_ ?_; omega) | (with_reducible refine choF ?_ ?_; omega) | with_reducible refine cho (fun _ => ?_) (fun _ => ?_))
  all_goals
    refine ⟨rfl, ?_⟩
    simp_all
instance {b at_ : Nat} {l : List UInt8} {m : SM} {w : Bool} {x : Int} {σ rest : Store} {put : Ent → Store} [hv : VarAt b σ 158 [.lst 1 (l.map byt) m, .val (.int .i64 x), B w] put rest] [hx : NatOf x at_] : EC Go.Proofs.Try.prog 115 [ptrAt b 0] σ (l.length ≤ 1000000000000000 ∧ at_ ≤ l.length) Unit
    (fun _ => S (textV (l.drop at_))) (fun _ => put (.var b 158 [.lst 1 (l.map byt) m, I .i64 ((at_ + textN (l.drop at_) : Nat) : Int), B (w || !textO (l.drop at_))])) := ⟨fun ⟨h1, h2⟩ => by
  have e := hx.eq
  subst e
  exact (ACalls.at_ (text_ok b l m at_ w h1 h2)).mono fun x σ' ⟨g1, g2⟩ => ⟨(), g1, g2⟩⟩
def entry_Parse.mark : Mark := ⟨fun t => Nat.beq t 45, fun t => false, fun t => false, fun t => Nat.beq t 14 || Nat.beq t 27, fun t => false⟩
def entry_Parse.ann : Ann := ⟨fun n => [], fun n => bif Nat.beq n 8 then some [2, 5, 7] else none, fun n => bif Nat.beq n 5 then some [2, 5, 7] else bif Nat.beq n 10 then some [2, 3, 4] else none⟩
/-- 'marlstone/entry.Parse' -/
def entry_Parse.sh (a0 : AV) (σ : Store) (Q : AEnd → Store → Prop) : Prop :=
  aNewVar 54 [.val (.string ⟨#[]⟩), .val (.string ⟨#[]⟩), .val (.bool false), .val (.int .i64 0)] σ fun t2 σ =>
  Do (aBuiltin Go.Proofs.Try.prog .len #[27] [a0]) fun t9 =>
  Do (aBin Go.Proofs.Try.prog .eql 3 t9 (.val (.int .i64 0))) fun t10 =>
  Do (aGuard t10 false (aIs a0)) fun t12 =>
  Do (aGuard t10 false (aIndexAddr .slice 1 t12 (.val (.int .i64 0)))) fun t13 =>
  Do (aGuard t10 false (loadF false 1 t13)) fun t14 =>
  Do (aGuard t10 false (aBin Go.Proofs.Try.prog .gtr 5 t14 (W8 1))) fun t15 =>
  Do (aPick t10 (.val (.bool true)) t15) fun t16 =>
  aCond t16
    (Do (aLit [.val (.string ⟨#[]⟩), .val (.string ⟨#[]⟩), .val (.bool false), .val (.int .i64 0)] [(0, 1), (1, 1), (2, 1), (3, 1)] []) fun t17 =>
    storeA 4 t2 t17 σ fun u σ_1 =>
    Do (loadA true 4 t2 σ_1) fun r2 => Q (.ret (.tuple [r2, (.val (.int .i64 0)), (.val (.int .i64 2))])) σ_1)
    (Do (aLit [.val (.slice none 0 0), .val (.int .i64 0), .val (.bool false)] [(0, 1), (1, 1), (2, 1)] [(0, a0), (1, (.val (.int .i64 1)))]) fun t19 =>
  aNewVar 158 (t19 : AV).cells σ fun t20 σ_2 =>
  aCall Go.Proofs.Try.prog 114 [t20] σ_2 (fun t22 σ_3 =>
  aJoin (fun j =>
    Do (aIndexAddr .slice 1 a0 (.val (.int .i64 0))) fun t26 =>
    Do (loadF false 1 t26) fun t27 =>
    Do (aBin Go.Proofs.Try.prog .eql 5 t27 (W8 1)) fun t28 =>
    Do (aBuiltin Go.Proofs.Try.prog .min #[143, 143] [t22, (W64 1099511627777)]) fun t30 =>
    Do (fun x => aConvN 143 3 t30 x Go.Proofs.Try.prog) fun t31 =>
    Both (aCall Go.Proofs.Try.prog 115 [t20] σ_3 (fun t24 σ_5 =>
    Do (aLit [.val (.string ⟨#[]⟩), .val (.string ⟨#[]⟩), .val (.bool false), .val (.int .i64 0)] [(0, 1), (1, 1), (2, 1), (3, 1)] [(0, t24), (2, t28), (3, t31)]) fun t32 =>
    aNewVar 54 [.val (.string ⟨#[]⟩), .val (.string ⟨#[]⟩), .val (.bool false), .val (.int .i64 0)] σ_5 fun t7 σ_6 =>
    storeA 4 t7 t32 σ_6 fun u_1 σ_7 =>
    j [t2, t20, t7] σ_7) (fun e σ_8 => Q (.pan e) σ_8)) (aNewVar 54 [.val (.string ⟨#[]⟩), .val (.string ⟨#[]⟩), .val (.bool false), .val (.int .i64 0)] σ_3 fun t7_1 σ_9 =>
    aCall Go.Proofs.Try.prog 115 [t20] σ_9 (fun t24_1 σ_10 =>
    Do (aLit [.val (.string ⟨#[]⟩), .val (.string ⟨#[]⟩), .val (.bool false), .val (.int .i64 0)] [(0, 1), (1, 1), (2, 1), (3, 1)] [(0, t24_1), (2, t28), (3, t31)]) fun t32_1 =>
    storeA 4 t7_1 t32_1 σ_10 fun u_2 σ_11 =>
    j [t2, t20, t7_1] σ_11) (fun e_1 σ_12 => Q (.pan e_1) σ_12))) fun vs σ_4 =>
  At vs 0 fun s2 => At vs 1 fun s5 => At vs 2 fun s7 => aJoin (fun j_1 =>
    Do (aFieldAddr 2 1 s7) fun t33 =>
    Do (loadA false 1 t33 σ_4) fun t34 =>
    Do (aUn Go.Proofs.Try.prog .not t34) fun t35 =>
    aCond t35
      (aCall Go.Proofs.Try.prog 115 [s5] σ_4 (fun t37 σ_14 =>
      Do (aFieldAddr 1 1 s7) fun t38 =>
      storeA 1 t38 t37 σ_14 fun u_3 σ_15 =>
      j_1 [s2, s5, s7] σ_15) (fun e_2 σ_16 => Q (.pan e_2) σ_16))
      (j_1 [s2, s5, s7] σ_4)) fun vs_1 σ_13 =>
  At vs_1 0 fun s2_1 => At vs_1 1 fun s5_1 => At vs_1 2 fun s7_1 => Do (aNil s5_1) fun t40 =>
  Do (aFieldAddr 2 1 t40) fun t41 =>
  Do (loadA false 1 t41 σ_13) fun t42 =>
  Do (aGuard t42 false (loadA true 4 s7_1 σ_13)) fun t44 =>
  Do (aGuard t42 false (aPureC Go.Proofs.Try.prog 61 [t44])) fun t45 =>
  Do (aGuard t42 false (aUn Go.Proofs.Try.prog .not t45)) fun t46 =>
  Do (aPick t42 (.val (.bool true)) t46) fun t47 =>
  aCond t47
    (Do (aLit [.val (.string ⟨#[]⟩), .val (.string ⟨#[]⟩), .val (.bool false), .val (.int .i64 0)] [(0, 1), (1, 1), (2, 1), (3, 1)] []) fun t48 =>
    storeA 4 s2_1 t48 σ_13 fun u_4 σ_17 =>
    Do (loadA true 4 s2_1 σ_17) fun r2_1 => Q (.ret (.tuple [r2_1, (.val (.int .i64 0)), (.val (.int .i64 2))])) σ_17)
    (aJoin (fun j_2 =>
    Do (loadA true 4 s7_1 σ_13) fun t49 =>
    Do (aNil s5_1) fun t51 =>
    Do (aFieldAddr 1 1 t51) fun t52 =>
    Both (Do (loadA false 1 t52 σ_13) fun t53 =>
    storeA 4 s2_1 t49 σ_13 fun u_5 σ_19 =>
    j_2 [s2_1, t53, (.val (.int .i64 0))] σ_19) (storeA 4 s2_1 t49 σ_13 fun u_6 σ_20 =>
    Do (loadA false 1 t52 σ_20) fun t53_1 =>
    j_2 [s2_1, t53_1, (.val (.int .i64 0))] σ_20)) fun vs_2 σ_18 =>
  At vs_2 0 fun s2_2 => At vs_2 1 fun s3 => At vs_2 2 fun s4 => Do (loadA true 4 s2_2 σ_18) fun r2_2 => Q (.ret (.tuple [r2_2, s3, s4])) σ_18)) (fun e_3 σ_21 => Q (.pan e_3) σ_21))
theorem entry_Parse.eq (a0 : AV) (σ : Store) (Q : AEnd → Store → Prop) : vc (semOf Go.Proofs.Try.prog entry_Parse.mark) Go.Proofs.Try.f93.ntmps entry_Parse.ann (bodyOf Go.Proofs.Try.f93) (endK [.cell 2 true 4, .tmp 3, .tmp 4] Q) (argFr [a0]) σ = entry_Parse.sh a0 σ Q := by kernel_rfl
theorem entry_Parse.go {a0 : AV} {σ : Store} {Q : AEnd → Store → Prop} (h : entry_Parse.sh a0 σ Q) : ACalls Go.Proofs.Try.prog 93 [a0] σ Q :=
  acalls_of_eq [.cell 2 true 4, .tmp 3, .tmp 4] Go.Proofs.Try.func93 (by kernel_rfl) (by kernel_rfl) (by kernel_rfl) (by kernel_rfl) (entry_Parse.eq a0 σ Q) h
def ref03_Parse.mark : Mark := ⟨fun t => Nat.beq t 28 || Nat.beq t 45 || Nat.beq t 69 || Nat.beq t 82, fun t => false, fun t => false, fun t => false, fun t => false⟩
def ref03_Parse.ann : Ann := ⟨fun n => [], fun n => bif Nat.beq n 18 then some [2, 8, 12] else none, fun n => none⟩
theorem p_fail {l : List UInt8} (h : parseE l = none) : AEnd.ret (.tuple [En.zero.av, I .i64 0, I .i64 2]) = .ret (.tuple [(parseV l).av, I .i64 (parseN l : Nat), I .i64 (parseX l)]) := by
  simp [parseV, parseN, parseX, h]
theorem p_done {l : List UInt8} {e : En} {n : Nat} (h : parseE l = some (e, n)) : AEnd.ret (.tuple [e.av, I .i64 (n : Nat), I .i64 0]) = .ret (.tuple [(parseV l).av, I .i64 (parseN l : Nat), I .i64 (parseX l)]) := by
  simp [parseV, parseN, parseX, h]
theorem entry_Parse_ok (l : List UInt8) (m : SM) (hl : l.length ≤ 1000000000000000) : aPure Go.Proofs.Try.prog 93 [.lst 1 (l.map byt) m] (.tuple [(parseV l).av, I .i64 (parseN l : Nat), I .i64 (parseX l)]) := by
  refine ACalls.fin (entry_Parse.go ?_)
  unfold entry_Parse.sh
  obtain ⟨b1, b2, b3, b4⟩ := get_bound (s := l.drop 1)
  obtain ⟨c1, c2, c3⟩ := text_bound (s := l.drop (1 + getN (l.drop 1)))
  obtain ⟨d1, d2, d3⟩ := text_bound (s := l.drop (1 + getN (l.drop 1) + textN (l.drop (1 + getN (l.drop 1)))))
  rw [List.length_drop] at b3 c1 d1
  repeat' (first | with_reducible apply Stp.go | with_reducible refine imp fun _ => ?_ | (with_reducible refine hyp ?_ ?_; first | assumption | exact leftT_mem (by assumption)) | (with_reducible refine need ?_ ?_; first | trivial | omega | exact ⟨by assumption, by omega⟩ | (simp only [List.length_append, List.length_cons, List.length_nil, List.length_map, List.length_take, List.length_drop, List.length_replicate, List.length_set]; omega)) | (with_reducible refine fact ?_ ?_; first | trivial | exact ⟨rfl, rfl⟩ | kernel_rfl) | with_reducible refine choT (by assumption) ?_ | with_reducible refine choF (by assumption) ?_ | with_reducible refine choF' (by assumption) ?_ | (with_reducible refine altT ?_ ?_; first | omega | (simp only [List.length_append, List.length_cons, List.length_nil, List.length_map, List.length_take, List.length_drop, List.length_replicate, List.length_set]; omega)) | with_reducible refine altF ?_ | with_reducible refine all fun _ => ?_ | with_reducible refine both ?_ ?_ | (with_reducible refine choT ?_ ?_; omega) | (with_reducible refine choF ?_ ?_; omega) | with_reducible refine cho (fun _ => ?_) (fun _ => ?_))
  · rename_i h0
    refine ⟨_, _, _, rfl, Sub.app_nil _, p_fail ?_, rfl⟩
    rw [parseE, if_pos (.inl (List.length_eq_zero_iff.1 h0))]
  · rename_i h0 h1
    refine ⟨_, _, _, rfl, Sub.app_nil _, p_fail ?_, rfl⟩
    rw [parseE, if_pos (.inr h1)]
  · rename_i r2 h0 h1 r _
    have hmin : (if (UInt64.ofNat (getV (l.drop 1))).toNat ≤ UInt64.toNat 1099511627777 then UInt64.ofNat (getV (l.drop 1)) else 1099511627777).toNat = min (getV (l.drop 1)) 1099511627777 := by
      have e := u64_len b1
      have e2 : UInt64.toNat 1099511627777 = 1099511627777 := rfl
      rw [e, e2]
      split
      · rw [e]; omega
      · rw [e2]; omega
    refine joinI (β := Nat) (fun _ => True) (fun b => [ptrAt r2 0, ptrAt r 0, ptrAt b 0]) (fun b => [.var r 158 [.lst 1 (l.map byt) m, I .i64 ((1 + getN (l.drop 1) + textN (l.drop (1 + getN (l.drop 1))) : Nat) : Int), B (!getO (l.drop 1) || !textO (l.drop (1 + getN (l.drop 1))))], .var r2 54 En.zero.cs,
      .var b 54 (En.cs ⟨textV (l.drop (1 + getN (l.drop 1))), [], decide ((l.getD 0 default).toNat = 1), (min (getV (l.drop 1)) 1099511627777 : Nat)⟩)]) ?_ ?_
    · repeat' (first | with_reducible apply Stp.go | with_reducible refine imp fun _ => ?_ | (with_reducible refine hyp ?_ ?_; first | assumption | exact leftT_mem (by assumption)) | (with_reducible refine need ?_ ?_; first | trivial | omega | exact ⟨by assumption, by omega⟩ | (simp only [List.length_append, List.length_cons, List.length_nil, List.length_map, List.length_take, List.length_drop, List.length_replicate, List.length_set]; omega)) | (with_reducible refine fact ?_ ?_; first | trivial | exact ⟨rfl, rfl⟩ | kernel_rfl) | with_reducible refine choT (by assumption) ?_ | with_reducible refine choF (by assumption) ?_ | with_reducible refine choF' (by assumption) ?_ | (with_reducible refine altT ?_ ?_; first | omega | (simp only [List.length_append, List.length_cons, List.length_nil, List.length_map, List.length_take, List.length_drop, List.length_replicate, List.length_set]; omega)) | with_reducible refine altF ?_ | with_reducible refine all fun _ => ?_ | with_reducible refine both ?_ ?_ | (with_reducible refine choT ?_ ?_; omega) | (with_reducible refine choF ?_ ?_; omega) | with_reducible refine cho (fun _ => ?_) (fun _ => ?_))
      all_goals try rw [hmin]
      repeat' (first | with_reducible apply Stp.go | with_reducible refine imp fun _ => ?_ | (with_reducible refine hyp ?_ ?_; first | assumption | exact leftT_mem (by assumption)) | (with_reducible refine need ?_ ?_; first | trivial | omega | exact ⟨by assumption, by omega⟩ | (simp only [List.length_append, List.length_cons, List.length_nil, List.length_map, List.length_take, List.length_drop, List.length_replicate, List.length_set]; omega)) | (with_reducible refine fact ?_ ?_; first | trivial | exact ⟨rfl, rfl⟩ | kernel_rfl) | with_reducible refine choT (by assumption) ?_ | with_reducible refine choF (by assumption) ?_ | with_reducible refine choF' (by assumption) ?_ | (with_reducible refine altT ?_ ?_; first | omega | (simp only [List.length_append, List.length_cons, List.length_nil, List.length_map, List.length_take, List.length_drop, List.length_replicate, List.length_set]; omega)) | with_reducible refine altF ?_ | with_reducible refine all fun _ => ?_ | with_reducible refine both ?_ ?_ | (with_reducible refine choT ?_ ?_; omega) | (with_reducible refine choF ?_ ?_; omega) | with_reducible refine cho (fun _ => ?_) (fun _ => ?_))
      all_goals try rw [hmin]
      all_goals try rw [Bool.false_or]
      all_goals exact meet _ trivial (subS _)
    · intro b _
      repeat' (first | with_reducible apply Stp.go | with_reducible refine imp fun _ => ?_ | (with_reducible refine hyp ?_ ?_; first | assumption | exact leftT_mem (by assumption)) | (with_reducible refine need ?_ ?_; first | trivial | omega | exact ⟨by assumption, by omega⟩ | (simp only [List.length_append, List.length_cons, List.length_nil, List.length_map, List.length_take, List.length_drop, List.length_replicate, List.length_set]; omega)) | (with_reducible refine fact ?_ ?_; first | trivial | exact ⟨rfl, rfl⟩ | kernel_rfl) | with_reducible refine choT (by assumption) ?_ | with_reducible refine choF (by assumption) ?_ | with_reducible refine choF' (by assumption) ?_ | (with_reducible refine altT ?_ ?_; first | omega | (simp only [List.length_append, List.length_cons, List.length_nil, List.length_map, List.length_take, List.length_drop, List.length_replicate, List.length_set]; omega)) | with_reducible refine altF ?_ | with_reducible refine all fun _ => ?_ | with_reducible refine both ?_ ?_ | (with_reducible refine choT ?_ ?_; omega) | (with_reducible refine choF ?_ ?_; omega) | with_reducible refine cho (fun _ => ?_) (fun _ => ?_))
      refine joinE ?_
      repeat' (first | with_reducible apply Stp.go | with_reducible refine imp fun _ => ?_ | (with_reducible refine hyp ?_ ?_; first | assumption | exact leftT_mem (by assumption)) | (with_reducible refine need ?_ ?_; first | trivial | omega | exact ⟨by assumption, by omega⟩ | (simp only [List.length_append, List.length_cons, List.length_nil, List.length_map, List.length_take, List.length_drop, List.length_replicate, List.length_set]; omega)) | (with_reducible refine fact ?_ ?_; first | trivial | exact ⟨rfl, rfl⟩ | kernel_rfl) | with_reducible refine choT (by assumption) ?_ | with_reducible refine choF (by assumption) ?_ | with_reducible refine choF' (by assumption) ?_ | (with_reducible refine altT ?_ ?_; first | omega | (simp only [List.length_append, List.length_cons, List.length_nil, List.length_map, List.length_take, List.length_drop, List.length_replicate, List.length_set]; omega)) | with_reducible refine altF ?_ | with_reducible refine all fun _ => ?_ | with_reducible refine both ?_ ?_ | (with_reducible refine choT ?_ ?_; omega) | (with_reducible refine choF ?_ ?_; omega) | with_reducible refine cho (fun _ => ?_) (fun _ => ?_))
      all_goals try refine joinE ?_
      repeat' (first | with_reducible apply Stp.go | with_reducible refine imp fun _ => ?_ | (with_reducible refine hyp ?_ ?_; first | assumption | exact leftT_mem (by assumption)) | (with_reducible refine need ?_ ?_; first | trivial | omega | exact ⟨by assumption, by omega⟩ | (simp only [List.length_append, List.length_cons, List.length_nil, List.length_map, List.length_take, List.length_drop, List.length_replicate, List.length_set]; omega)) | (with_reducible refine fact ?_ ?_; first | trivial | exact ⟨rfl, rfl⟩ | kernel_rfl) | with_reducible refine choT (by assumption) ?_ | with_reducible refine choF (by assumption) ?_ | with_reducible refine choF' (by assumption) ?_ | (with_reducible refine altT ?_ ?_; first | omega | (simp only [List.length_append, List.length_cons, List.length_nil, List.length_map, List.length_take, List.length_drop, List.length_replicate, List.length_set]; omega)) | with_reducible refine altF ?_ | with_reducible refine all fun _ => ?_ | with_reducible refine both ?_ ?_ | (with_reducible refine choT ?_ ?_; omega) | (with_reducible refine choF ?_ ?_; omega) | with_reducible refine cho (fun _ => ?_) (fun _ => ?_))
      · rename_i hd hw
        exact ⟨_, _, _, rfl, Sub.app_nil _, p_fail (parse_fail1 hw), rfl⟩
      · rename_i hd hw hr
        exact ⟨_, _, _, rfl, Sub.app_nil _, p_done (by rw [parse_del h0 h1 hd hw, if_pos hr]), rfl⟩
      · rename_i hd hw hr
        exact ⟨_, _, _, rfl, Sub.app_nil _, p_done (by rw [parse_del h0 h1 hd hw, if_pos hr]), rfl⟩
      · rename_i hd hw hr
        exact ⟨_, _, _, rfl, Sub.app_nil _, p_fail (by rw [parse_del h0 h1 hd hw, if_neg hr]), rfl⟩
      · rename_i hd _ hw
        exact ⟨_, _, _, rfl, Sub.app_nil _, p_fail (parse_fail2 hd hw), rfl⟩
      · rename_i hd _ hw hr
        exact ⟨_, _, _, rfl, Sub.app_nil _, p_done (by rw [parse_val h0 h1 hd hw, if_pos hr]), rfl⟩
      · rename_i hd _ hw hr
        exact ⟨_, _, _, rfl, Sub.app_nil _, p_done (by rw [parse_val h0 h1 hd hw, if_pos hr]), rfl⟩
      · rename_i hd _ hw hr
        exact ⟨_, _, _, rfl, Sub.app_nil _, p_fail (by rw [parse_val h0 h1 hd hw, if_neg hr]), rfl⟩
instance {a : AV} {l : List UInt8} {m : SM} [h : IsL a byt 1 l m] : PC Go.Proofs.Try.prog 93 [a] (l.length ≤ 1000000000000000) (.tuple [(parseV l).av, I .i64 (parseN l : Nat), I .i64 (parseX l)]) := ⟨fun hl => ⟨[.lst 1 (l.map byt) m], ⟨h.sub, trivial⟩, entry_Parse_ok l m hl⟩⟩
end Go.Ab

/- The entry of a leaf; what a table has of a key, checked. -/
set_option linter.unusedVariables false
set_option linter.unusedSimpArgs false
namespace Go.Ab
def seek_whole.mark : Mark := ⟨fun t => Nat.beq t 9, fun t => false, fun t => false, fun t => false, fun t => false⟩
def seek_whole.ann : Ann := ⟨fun n => [], fun n => none, fun n => none⟩
/-- 'marlstone/seek.whole' -/
def seek_whole.sh (a0 : AV) (σ : Store) (Q : AEnd → Store → Prop) : Prop :=
  aNewVar 54 [.val (.string ⟨#[]⟩), .val (.string ⟨#[]⟩), .val (.bool false), .val (.int .i64 0)] σ fun t2 σ =>
  Do (aPureC Go.Proofs.Try.prog 93 [a0]) fun t9 =>
  Do (aExt t9 0) fun t10 =>
  Do (aExt t9 1) fun t11 =>
  Do (aExt t9 2) fun t12 =>
  aNewVar 54 [.val (.string ⟨#[]⟩), .val (.string ⟨#[]⟩), .val (.bool false), .val (.int .i64 0)] σ fun t4 σ_1 =>
  storeA 4 t4 t10 σ_1 fun u σ_2 =>
  Do (loadA true 4 t4 σ_2) fun t13 =>
  Do (aBin Go.Proofs.Try.prog .eql 33 t12 (.val (.int .i64 0))) fun t15 =>
  Do (aGuard t15 true (aIs t11)) fun t17 =>
  Do (aGuard t15 true (aIs a0)) fun t18 =>
  Do (aGuard t15 true (aBuiltin Go.Proofs.Try.prog .len #[27] [t18])) fun t19 =>
  Do (aGuard t15 true (aBin Go.Proofs.Try.prog .eql 3 t17 t19)) fun t20 =>
  Do (aPick t15 t20 (.val (.bool false))) fun t21 =>
  storeA 4 t2 t13 σ_2 fun u_1 σ_3 =>
  Do (loadA true 4 t2 σ_3) fun r2 => Q (.ret (.tuple [r2, t21])) σ_3
theorem seek_whole.eq (a0 : AV) (σ : Store) (Q : AEnd → Store → Prop) : vc (semOf Go.Proofs.Try.prog seek_whole.mark) Go.Proofs.Try.f52.ntmps seek_whole.ann (bodyOf Go.Proofs.Try.f52) (endK [.cell 2 true 4, .tmp 3] Q) (argFr [a0]) σ = seek_whole.sh a0 σ Q := by kernel_rfl
theorem seek_whole.go {a0 : AV} {σ : Store} {Q : AEnd → Store → Prop} (h : seek_whole.sh a0 σ Q) : ACalls Go.Proofs.Try.prog 52 [a0] σ Q :=
  acalls_of_eq [.cell 2 true 4, .tmp 3] Go.Proofs.Try.func52 (by kernel_rfl) (by kernel_rfl) (by kernel_rfl) (by kernel_rfl) (seek_whole.eq a0 σ Q) h
def seek_none.mark : Mark := ⟨fun t => false, fun t => false, fun t => Nat.beq t 1, fun t => Nat.beq t 4 || Nat.beq t 8 || Nat.beq t 14, fun t => false⟩
def seek_none.ann : Ann := ⟨fun n => [], fun n => none, fun n => none⟩
/-- 'marlstone/seek.none' -/
def seek_none.sh (a0 : AV) (σ : Store) (Q : AEnd → Store → Prop) : Prop :=
  Do (aFreeze ((a0 : AV)).cells) fun t1 =>
  Do (aFieldAddr 0 1 t1) fun t3 =>
  Do (loadF false 1 t3) fun t4 =>
  Do (aBin Go.Proofs.Try.prog .eql 3 t4 (.val (.int .i64 0))) fun t5 =>
  Do (aGuard t5 true (aFieldAddr 1 1 t1)) fun t7 =>
  Do (aGuard t5 true (loadF false 1 t7)) fun t8 =>
  Do (aGuard t5 true (aBuiltin Go.Proofs.Try.prog .len #[27] [t8])) fun t9 =>
  Do (aGuard t5 true (aBin Go.Proofs.Try.prog .eql 3 t9 (.val (.int .i64 0)))) fun t10 =>
  Do (aPick t5 t10 (.val (.bool false))) fun t11 =>
  Do (aGuard t11 true (aFieldAddr 2 1 t1)) fun t13 =>
  Do (aGuard t11 true (loadF false 1 t13)) fun t14 =>
  Do (aGuard t11 true (aBuiltin Go.Proofs.Try.prog .len #[28] [t14])) fun t15 =>
  Do (aGuard t11 true (aBin Go.Proofs.Try.prog .eql 3 t15 (.val (.int .i64 0)))) fun t16 =>
  Do (aPick t11 t16 (.val (.bool false))) fun t17 =>
  Q (.ret t17) σ
theorem seek_none.eq (a0 : AV) (σ : Store) (Q : AEnd → Store → Prop) : vc (semOf Go.Proofs.Try.prog seek_none.mark) Go.Proofs.Try.f50.ntmps seek_none.ann (bodyOf Go.Proofs.Try.f50) (endK [.tmp 2] Q) (argFr [a0]) σ = seek_none.sh a0 σ Q := by kernel_rfl
theorem seek_none.go {a0 : AV} {σ : Store} {Q : AEnd → Store → Prop} (h : seek_none.sh a0 σ Q) : ACalls Go.Proofs.Try.prog 50 [a0] σ Q :=
  acalls_of_eq [.tmp 2] Go.Proofs.Try.func50 (by kernel_rfl) (by kernel_rfl) (by kernel_rfl) (by kernel_rfl) (seek_none.eq a0 σ Q) h
theorem none_ok (o : Opn) : aPure Go.Proofs.Try.prog 50 [.agg [I .i64 o.1, bl o.2.1, .lst 32 (o.2.2.map dgF) .ro]] (B (decide (o.1 = 0 ∧ o.2.1.length = 0 ∧ o.2.2.length = 0))) := by
  refine ACalls.fin (seek_none.go ?_)
  unfold seek_none.sh
  repeat' (first | with_reducible apply Stp.go | with_reducible refine imp fun _ => ?_ | (with_reducible refine hyp ?_ ?_; first | assumption | exact leftT_mem (by assumption)) | (with_reducible refine need ?_ ?_; first | trivial | omega | exact ⟨by assumption, by omega⟩ | (simp only [List.length_append, List.length_cons, List.length_nil, List.length_map, List.length_take, List.length_drop, List.length_replicate, List.length_set]; omega)) | (with_reducible refine fact ?_ ?_; first | trivial | exact ⟨rfl, rfl⟩ | kernel_rfl) | with_reducible refine choT (by assumption) ?_ | with_reducible refine choF (by assumption) ?_ | with_reducible refine choF' (by assumption) ?_ | (with_reducible refine altT ?_ ?_; first | omega | (simp only [List.length_append, List.length_cons, List.length_nil, List.length_map, List.length_take, List.length_drop, List.length_replicate, List.length_set]; omega)) | with_reducible refine altF ?_ | with_reducible refine all fun _ => ?_ | with_reducible refine both ?_ ?_ | (with_reducible refine choT ?_ ?_; omega) | (with_reducible refine choF ?_ ?_; omega) | with_reducible refine cho (fun _ => ?_) (fun _ => ?_))
  all_goals
    refine ⟨_, _, _, rfl, Sub.app_nil _, ?_, rfl⟩
    simp_all
instance {o : Opn} : PC Go.Proofs.Try.prog 50 [.agg [I .i64 o.1, bl o.2.1, .lst 32 (o.2.2.map dgF) .ro]] True (B (decide (o.1 = 0 ∧ o.2.1.length = 0 ∧ o.2.2.length = 0))) := ⟨fun _ => PC.of (none_ok o)⟩
/-- Bytes are one entry, whole. -/
def wholeB (l : List UInt8) : Bool := decide (parseX l = 0) && decide (parseN l = l.length)
theorem whole_ok (l : List UInt8) (m : SM) (hl : l.length ≤ 100000000000000) : aPure Go.Proofs.Try.prog 52 [.lst 1 (l.map byt) m] (.tuple [(parseV l).av, B (wholeB l)]) := by
  refine ACalls.fin (seek_whole.go ?_)
  unfold seek_whole.sh
  repeat' (first | with_reducible apply Stp.go | with_reducible refine imp fun _ => ?_ | (with_reducible refine hyp ?_ ?_; first | assumption | exact leftT_mem (by assumption)) | (with_reducible refine need ?_ ?_; first | trivial | omega | exact ⟨by assumption, by omega⟩ | (simp only [List.length_append, List.length_cons, List.length_nil, List.length_map, List.length_take, List.length_drop, List.length_replicate, List.length_set]; omega)) | (with_reducible refine fact ?_ ?_; first | trivial | exact ⟨rfl, rfl⟩ | kernel_rfl) | with_reducible refine choT (by assumption) ?_ | with_reducible refine choF (by assumption) ?_ | with_reducible refine choF' (by assumption) ?_ | (with_reducible refine altT ?_ ?_; first | omega | (simp only [List.length_append, List.length_cons, List.length_nil, List.length_map, List.length_take, List.length_drop, List.length_replicate, List.length_set]; omega)) | with_reducible refine altF ?_ | with_reducible refine all fun _ => ?_ | with_reducible refine both ?_ ?_ | (with_reducible refine choT ?_ ?_; omega) | (with_reducible refine choF ?_ ?_; omega) | with_reducible refine cho (fun _ => ?_) (fun _ => ?_))
  · rename_i h
    refine ⟨_, _, _, rfl, Sub.app_nil _, ?_, rfl⟩
    rw [wholeB, decide_eq_true h, Bool.true_and]
  · rename_i h
    refine ⟨_, _, _, rfl, Sub.app_nil _, ?_, rfl⟩
    rw [wholeB, decide_eq_false h, Bool.false_and]
instance {a : AV} {l : List UInt8} {m : SM} [h : IsL a byt 1 l m] : PC Go.Proofs.Try.prog 52 [a] (l.length ≤ 100000000000000) (.tuple [(parseV l).av, B (wholeB l)]) := ⟨fun hl => ⟨[.lst 1 (l.map byt) m], ⟨h.sub, trivial⟩, whole_ok l m hl⟩⟩
def seek_holds.mark : Mark := ⟨fun t => Nat.beq t 13 || Nat.beq t 30, fun t => false, fun t => Nat.beq t 3 || Nat.beq t 4 || Nat.beq t 5, fun t => Nat.beq t 12 || Nat.beq t 19 || Nat.beq t 21 || Nat.beq t 23 || Nat.beq t 25 || Nat.beq t 27 || Nat.beq t 29, fun t => false⟩
def seek_holds.ann : Ann := ⟨fun n => [], fun n => none, fun n => none⟩
/-- 'marlstone/seek.holds' -/
def seek_holds.sh (a0 a1 a2 : AV) (σ : Store) (Q : AEnd → Store → Prop) : Prop :=
  Do (aFreeze ((a0 : AV)).cells) fun t3 =>
  Do (aFreeze ((a1 : AV)).cells) fun t4 =>
  Do (aFreeze ((a2 : AV)).cells) fun t5 =>
  aNewVar 54 [.val (.string ⟨#[]⟩), .val (.string ⟨#[]⟩), .val (.bool false), .val (.int .i64 0)] σ fun t6 σ =>
  Do (aFieldAddr 1 1 t5) fun t11 =>
  Do (loadF false 1 t11) fun t12 =>
  Do (aPureC Go.Proofs.Try.prog 52 [t12]) fun t13 =>
  Do (aExt t13 0) fun t14 =>
  Do (aExt t13 1) fun t15 =>
  aNewVar 54 [.val (.string ⟨#[]⟩), .val (.string ⟨#[]⟩), .val (.bool false), .val (.int .i64 0)] σ fun t8 σ_1 =>
  storeA 4 t8 t14 σ_1 fun u σ_2 =>
  Do (loadA true 4 t8 σ_2) fun t16 =>
  Do (aGuard t15 true (loadF true 1 t3)) fun t19 =>
  Do (aGuard t15 true (aFieldAddr 2 32 t4)) fun t20 =>
  Do (aGuard t15 true (loadF true 32 t20)) fun t21 =>
  Do (aGuard t15 true (aFieldAddr 1 1 t4)) fun t22 =>
  Do (aGuard t15 true (loadF false 1 t22)) fun t23 =>
  Do (aGuard t15 true (aFieldAddr 0 1 t5)) fun t24 =>
  Do (aGuard t15 true (loadF false 1 t24)) fun t25 =>
  Do (aGuard t15 true (aFieldAddr 1 1 t5)) fun t26 =>
  Do (aGuard t15 true (loadF false 1 t26)) fun t27 =>
  Do (aGuard t15 true (aFieldAddr 2 1 t5)) fun t28 =>
  Do (aGuard t15 true (loadF false 1 t28)) fun t29 =>
  Do (aGuard t15 true (aPureC Go.Proofs.Try.prog 64 [t19, t21, t23, t25, t27, t29])) fun t30 =>
  Do (aPick t15 t30 (.val (.bool false))) fun t31 =>
  storeA 4 t6 t16 σ_2 fun u_1 σ_3 =>
  Do (loadA true 4 t6 σ_3) fun r6 => Q (.ret (.tuple [r6, t31])) σ_3
theorem seek_holds.eq (a0 a1 a2 : AV) (σ : Store) (Q : AEnd → Store → Prop) : vc (semOf Go.Proofs.Try.prog seek_holds.mark) Go.Proofs.Try.f49.ntmps seek_holds.ann (bodyOf Go.Proofs.Try.f49) (endK [.cell 6 true 4, .tmp 7] Q) (argFr [a0, a1, a2]) σ = seek_holds.sh a0 a1 a2 σ Q := by kernel_rfl
theorem seek_holds.go {a0 a1 a2 : AV} {σ : Store} {Q : AEnd → Store → Prop} (h : seek_holds.sh a0 a1 a2 σ Q) : ACalls Go.Proofs.Try.prog 49 [a0, a1, a2] σ Q :=
  acalls_of_eq [.cell 6 true 4, .tmp 7] Go.Proofs.Try.func49 (by kernel_rfl) (by kernel_rfl) (by kernel_rfl) (by kernel_rfl) (seek_holds.eq a0 a1 a2 σ Q) h
def holdsB (b : Int) (root : D32) (cnt i : Int) (leaf : List UInt8) (path : List D32) : Bool := wholeB leaf && checkZ b root cnt i leaf path
theorem holdsB_in {b : Int} {root : D32} {cnt i : Int} {leaf : List UInt8} {path : List D32} (h : holdsB b root cnt i leaf path = true) : 0 ≤ i ∧ i < cnt := by
  unfold holdsB at h
  rw [Bool.and_eq_true] at h
  exact checkZ_in h.2
theorem holds_ok (b lev cnt i : Int) (d f g leaf : List UInt8) [hd : Len32 d] (path : List D32) (hc : cnt ≤ 9223372036854775807) (hl : leaf.length ≤ 100000000000000) : aPure Go.Proofs.Try.prog 49 [trA b, tabA lev cnt d f g, .agg [I .i64 i, bl leaf, .lst 32 (path.map dgF) .ro]] (.tuple [(parseV leaf).av, B (holdsB b ⟨d, hd.len⟩ cnt i leaf path)]) := by
  refine ACalls.fin (seek_holds.go ?_)
  unfold seek_holds.sh
  cases hw : wholeB leaf with
  | true =>
    have ht : (true : Bool) = true := rfl
    repeat' (first | with_reducible apply Stp.go | with_reducible refine imp fun _ => ?_ | (with_reducible refine hyp ?_ ?_; first | assumption | exact leftT_mem (by assumption)) | (with_reducible refine need ?_ ?_; first | trivial | omega | exact ⟨by assumption, by omega⟩ | (simp only [List.length_append, List.length_cons, List.length_nil, List.length_map, List.length_take, List.length_drop, List.length_replicate, List.length_set]; omega)) | (with_reducible refine fact ?_ ?_; first | trivial | exact ⟨rfl, rfl⟩ | kernel_rfl) | with_reducible refine choT (by assumption) ?_ | with_reducible refine choF (by assumption) ?_ | with_reducible refine choF' (by assumption) ?_ | (with_reducible refine altT ?_ ?_; first | omega | (simp only [List.length_append, List.length_cons, List.length_nil, List.length_map, List.length_take, List.length_drop, List.length_replicate, List.length_set]; omega)) | with_reducible refine altF ?_ | with_reducible refine all fun _ => ?_ | with_reducible refine both ?_ ?_ | (with_reducible refine choT ?_ ?_; omega) | (with_reducible refine choF ?_ ?_; omega) | with_reducible refine cho (fun _ => ?_) (fun _ => ?_))
    refine ⟨_, _, _, rfl, Sub.app_nil _, ?_, rfl⟩
    rw [holdsB, hw, Bool.true_and]
  | false =>
    have hff : ¬ (false : Bool) = true := by decide
    repeat' (first | with_reducible apply Stp.go | with_reducible refine imp fun _ => ?_ | (with_reducible refine hyp ?_ ?_; first | assumption | exact leftT_mem (by assumption)) | (with_reducible refine need ?_ ?_; first | trivial | omega | exact ⟨by assumption, by omega⟩ | (simp only [List.length_append, List.length_cons, List.length_nil, List.length_map, List.length_take, List.length_drop, List.length_replicate, List.length_set]; omega)) | (with_reducible refine fact ?_ ?_; first | trivial | exact ⟨rfl, rfl⟩ | kernel_rfl) | with_reducible refine choT (by assumption) ?_ | with_reducible refine choF (by assumption) ?_ | with_reducible refine choF' (by assumption) ?_ | (with_reducible refine altT ?_ ?_; first | omega | (simp only [List.length_append, List.length_cons, List.length_nil, List.length_map, List.length_take, List.length_drop, List.length_replicate, List.length_set]; omega)) | with_reducible refine altF ?_ | with_reducible refine all fun _ => ?_ | with_reducible refine both ?_ ?_ | (with_reducible refine choT ?_ ?_; omega) | (with_reducible refine choF ?_ ?_; omega) | with_reducible refine cho (fun _ => ?_) (fun _ => ?_))
    refine ⟨_, _, _, rfl, Sub.app_nil _, ?_, rfl⟩
    rw [holdsB, hw, Bool.false_and]
instance {b lev cnt i : Int} {d f g leaf : List UInt8} [hd : Len32 d] {path : List D32} : PC Go.Proofs.Try.prog 49 [trA b, tabA lev cnt d f g, .agg [I .i64 i, bl leaf, .lst 32 (path.map dgF) .ro]] (cnt ≤ 9223372036854775807 ∧ leaf.length ≤ 100000000000000) (.tuple [(parseV leaf).av, B (holdsB b ⟨d, hd.len⟩ cnt i leaf path)]) := ⟨fun hl => PC.of (holds_ok b lev cnt i d f g leaf path hl.1 hl.2)⟩
end Go.Ab

/- What a table has of a key, checked. -/
set_option linter.unusedVariables false
set_option linter.unusedSimpArgs false
namespace Go.Ab
section pts
variable {bt : Bool} {x y : Opn} {lev cnt : Int} {d f g : List UInt8} {K : AV → Prop}
abbrev ptCs (bt : Bool) (x y : Opn) : List AV := [B bt, I .i64 x.1, bl x.2.1, .lst 32 (x.2.2.map dgF) .ro, I .i64 y.1, bl y.2.1, .lst 32 (y.2.2.map dgF) .ro]
abbrev opCs (x : Opn) : List AV := [I .i64 x.1, bl x.2.1, .lst 32 (x.2.2.map dgF) .ro]
instance (priority := 75) faPtA : Stp (Do (aFieldAddr 1 3 (.rptr (ptCs bt x y))) K) (K (.rptr (opCs x))) := ⟨fun hK => ⟨_, ⟨by decide, by simp, rfl⟩, hK⟩⟩
instance (priority := 75) faPtB : Stp (Do (aFieldAddr 4 3 (.rptr (ptCs bt x y))) K) (K (.rptr (opCs y))) := ⟨fun hK => ⟨_, ⟨by decide, by simp, rfl⟩, hK⟩⟩
instance (priority := 75) ldOpn : Stp (Do (loadF true 3 (.rptr (opCs x))) K) (K (.agg (opCs x))) := ⟨fun hK => ⟨_, ⟨by decide, fun h => by (cases h), by simp, rfl⟩, hK⟩⟩
instance (priority := 75) ldTabF [hd : Len32 d] : Stp (Do (loadF true 36 (.rptr (tabCs lev cnt d f g))) K) (K (tabA lev cnt d f g)) := ⟨fun hK => ⟨_, ⟨by decide, fun h => by (cases h), by rw [tabCs_len]; decide, by
  rw [List.take_of_length_le (by rw [tabCs_len]; decide)]; rfl⟩, hK⟩⟩
end pts
theorem lt_flip (a b : List UInt8) : lt a b = !(lt b a || decide (b = a)) := by
  cases h : lt a b with
  | true => rw [lt_asymm h, decide_eq_false (fun e => lt_ne h e.symm)]; rfl
  | false =>
    cases h2 : lt b a with
    | true => rfl
    | false => rw [lt_tri h2 h]; simp
/-- What is told of a key: an error, whether it is there, the entry. -/
def seekC (b : Int) (root : D32) (cnt : Int) (f g k : List UInt8) (bt : Bool) (x y : Opn) : Nat × Bool × En :=
  if holdsB b root cnt x.1 x.2.1 x.2.2 = true ∧ coversB f g k = true then
    if bt = true then
      if holdsB b root cnt y.1 y.2.1 y.2.2 = true ∧ y.1 - 1 = x.1 ∧ lt (parseV x.2.1).key k = true ∧ lt k (parseV y.2.1).key = true then (0, false, En.zero) else (8, false, En.zero)
    else if (parseV x.2.1).key = k ∧ (y.1 = 0 ∧ y.2.1.length = 0 ∧ y.2.2.length = 0) then (0, true, parseV x.2.1) else (8, false, En.zero)
  else (8, false, En.zero)
def seek_Check.mark : Mark := ⟨fun t => Nat.beq t 20 || Nat.beq t 28 || Nat.beq t 42 || Nat.beq t 52, fun t => false, fun t => Nat.beq t 4 || Nat.beq t 5 || Nat.beq t 7, fun t => Nat.beq t 16 || Nat.beq t 17 || Nat.beq t 19 || Nat.beq t 26 || Nat.beq t 33 || Nat.beq t 41 || Nat.beq t 48 || Nat.beq t 49 || Nat.beq t 51 || Nat.beq t 60 || Nat.beq t 64, fun t => false⟩
def seek_Check.ann : Ann := ⟨fun n => [], fun n => none, fun n => none⟩
/-- 'marlstone/seek.Check' -/
def seek_Check.sh (a0 a1 a2 a3 : AV) (σ : Store) (Q : AEnd → Store → Prop) : Prop :=
  Do (aFreeze ((a0 : AV)).cells) fun t4 =>
  Do (aFreeze ((a1 : AV)).cells) fun t5 =>
  Do (aFreeze ((a3 : AV)).cells) fun t7 =>
  aNewVar 54 [.val (.string ⟨#[]⟩), .val (.string ⟨#[]⟩), .val (.bool false), .val (.int .i64 0)] σ fun t8 σ =>
  Do (loadF true 1 t4) fun t16 =>
  Do (loadF true 36 t5) fun t17 =>
  Do (aFieldAddr 1 3 t7) fun t18 =>
  Do (loadF true 3 t18) fun t19 =>
  Do (aPureC Go.Proofs.Try.prog 49 [t16, t17, t19]) fun t20 =>
  Do (aExt t20 0) fun t21 =>
  Do (aExt t20 1) fun t22 =>
  aNewVar 54 [.val (.string ⟨#[]⟩), .val (.string ⟨#[]⟩), .val (.bool false), .val (.int .i64 0)] σ fun t11 σ_1 =>
  storeA 4 t11 t21 σ_1 fun u σ_2 =>
  Do (aUn Go.Proofs.Try.prog .not t22) fun t24 =>
  Do (aGuard t24 false (loadF true 36 t5)) fun t26 =>
  Do (aGuard t24 false (aIs a2)) fun t27 =>
  Do (aGuard t24 false (aPureC Go.Proofs.Try.prog 18 [t26, t27])) fun t28 =>
  Do (aGuard t24 false (aUn Go.Proofs.Try.prog .not t28)) fun t29 =>
  Do (aPick t24 (.val (.bool true)) t29) fun t30 =>
  aCond t30
    (Do (aLit [.val (.string ⟨#[]⟩), .val (.string ⟨#[]⟩), .val (.bool false), .val (.int .i64 0)] [(0, 1), (1, 1), (2, 1), (3, 1)] []) fun t31 =>
    storeA 4 t8 t31 σ_2 fun u_1 σ_3 =>
    Do (loadA true 4 t8 σ_3) fun r8 => Q (.ret (.tuple [r8, (.val (.bool false)), (.val (.int .i64 8))])) σ_3)
    (Do (aFieldAddr 0 1 t7) fun t32 =>
  Do (loadF false 1 t32) fun t33 =>
  Do (aUn Go.Proofs.Try.prog .not t33) fun t34 =>
  aCond t34
    (Do (aFieldAddr 0 1 t11) fun t35 =>
    Do (loadA false 1 t35 σ_2) fun t36 =>
    Do (aBin Go.Proofs.Try.prog .neq 9 t36 a2) fun t38 =>
    Do (aGuard t38 false (aFieldAddr 4 3 t7)) fun t40 =>
    Do (aGuard t38 false (loadF true 3 t40)) fun t41 =>
    Do (aGuard t38 false (aPureC Go.Proofs.Try.prog 50 [t41])) fun t42 =>
    Do (aGuard t38 false (aUn Go.Proofs.Try.prog .not t42)) fun t43 =>
    Do (aPick t38 (.val (.bool true)) t43) fun t44 =>
    aCond t44
      (Do (aLit [.val (.string ⟨#[]⟩), .val (.string ⟨#[]⟩), .val (.bool false), .val (.int .i64 0)] [(0, 1), (1, 1), (2, 1), (3, 1)] []) fun t45 =>
      storeA 4 t8 t45 σ_2 fun u_2 σ_4 =>
      Do (loadA true 4 t8 σ_4) fun r8_1 => Q (.ret (.tuple [r8_1, (.val (.bool false)), (.val (.int .i64 8))])) σ_4)
      (Do (loadA true 4 t11 σ_2) fun t46 =>
    storeA 4 t8 t46 σ_2 fun u_3 σ_5 =>
    Do (loadA true 4 t8 σ_5) fun r8_2 => Q (.ret (.tuple [r8_2, (.val (.bool true)), (.val (.int .i64 0))])) σ_5))
    (Do (loadF true 1 t4) fun t48 =>
  Do (loadF true 36 t5) fun t49 =>
  Do (aFieldAddr 4 3 t7) fun t50 =>
  Do (loadF true 3 t50) fun t51 =>
  Do (aPureC Go.Proofs.Try.prog 49 [t48, t49, t51]) fun t52 =>
  Do (aExt t52 0) fun t53 =>
  Do (aExt t52 1) fun t54 =>
  aNewVar 54 [.val (.string ⟨#[]⟩), .val (.string ⟨#[]⟩), .val (.bool false), .val (.int .i64 0)] σ_2 fun t13 σ_6 =>
  storeA 4 t13 t53 σ_6 fun u_4 σ_7 =>
  Do (aUn Go.Proofs.Try.prog .not t54) fun t56 =>
  Do (aGuard t56 false (aFieldAddr 4 3 t7)) fun t58 =>
  Do (aGuard t56 false (aFieldAddr 0 1 t58)) fun t59 =>
  Do (aGuard t56 false (loadF false 1 t59)) fun t60 =>
  Do (aGuard t56 false (aBin Go.Proofs.Try.prog .sub 3 t60 (.val (.int .i64 1)))) fun t61 =>
  Do (aGuard t56 false (aFieldAddr 1 3 t7)) fun t62 =>
  Do (aGuard t56 false (aFieldAddr 0 1 t62)) fun t63 =>
  Do (aGuard t56 false (loadF false 1 t63)) fun t64 =>
  Do (aGuard t56 false (aBin Go.Proofs.Try.prog .neq 3 t61 t64)) fun t65 =>
  Do (aPick t56 (.val (.bool true)) t65) fun t66 =>
  Do (aGuard t66 false (aFieldAddr 0 1 t11)) fun t68 =>
  Do (aGuard t66 false (loadA false 1 t68 σ_7)) fun t69 =>
  Do (aGuard t66 false (aIs a2)) fun t70 =>
  Do (aGuard t66 false (aBin Go.Proofs.Try.prog .geq 9 t69 t70)) fun t71 =>
  Do (aPick t66 (.val (.bool true)) t71) fun t72 =>
  Do (aGuard t72 false (aFieldAddr 0 1 t13)) fun t74 =>
  Do (aGuard t72 false (loadA false 1 t74 σ_7)) fun t75 =>
  Do (aGuard t72 false (aIs a2)) fun t76 =>
  Do (aGuard t72 false (aBin Go.Proofs.Try.prog .leq 9 t75 t76)) fun t77 =>
  Do (aPick t72 (.val (.bool true)) t77) fun t78 =>
  aCond t78
    (Do (aLit [.val (.string ⟨#[]⟩), .val (.string ⟨#[]⟩), .val (.bool false), .val (.int .i64 0)] [(0, 1), (1, 1), (2, 1), (3, 1)] []) fun t79 =>
    storeA 4 t8 t79 σ_7 fun u_5 σ_8 =>
    Do (loadA true 4 t8 σ_8) fun r8_3 => Q (.ret (.tuple [r8_3, (.val (.bool false)), (.val (.int .i64 8))])) σ_8)
    (Do (aLit [.val (.string ⟨#[]⟩), .val (.string ⟨#[]⟩), .val (.bool false), .val (.int .i64 0)] [(0, 1), (1, 1), (2, 1), (3, 1)] []) fun t80 =>
  storeA 4 t8 t80 σ_7 fun u_6 σ_9 =>
  Do (loadA true 4 t8 σ_9) fun r8_4 => Q (.ret (.tuple [r8_4, (.val (.bool false)), (.val (.int .i64 0))])) σ_9)))
theorem seek_Check.eq (a0 a1 a2 a3 : AV) (σ : Store) (Q : AEnd → Store → Prop) : vc (semOf Go.Proofs.Try.prog seek_Check.mark) Go.Proofs.Try.f23.ntmps seek_Check.ann (bodyOf Go.Proofs.Try.f23) (endK [.cell 8 true 4, .tmp 9, .tmp 10] Q) (argFr [a0, a1, a2, a3]) σ = seek_Check.sh a0 a1 a2 a3 σ Q := by kernel_rfl
theorem seek_Check.go {a0 a1 a2 a3 : AV} {σ : Store} {Q : AEnd → Store → Prop} (h : seek_Check.sh a0 a1 a2 a3 σ Q) : ACalls Go.Proofs.Try.prog 23 [a0, a1, a2, a3] σ Q :=
  acalls_of_eq [.cell 8 true 4, .tmp 9, .tmp 10] Go.Proofs.Try.func23 (by kernel_rfl) (by kernel_rfl) (by kernel_rfl) (by kernel_rfl) (seek_Check.eq a0 a1 a2 a3 σ Q) h
theorem seekCheck_ok (b lev cnt : Int) (d f g k : List UInt8) [hd : Len32 d] (bt : Bool) (x y : Opn) (hc : cnt ≤ 9223372036854775807) (h1 : x.2.1.length ≤ 100000000000000) (h2 : y.2.1.length ≤ 100000000000000) :
    aPure Go.Proofs.Try.prog 23 [trA b, tabA lev cnt d f g, S k, ptA bt x y] (.tuple [(seekC b ⟨d, hd.len⟩ cnt f g k bt x y).2.2.av, B (seekC b ⟨d, hd.len⟩ cnt f g k bt x y).2.1, I .i64 ((seekC b ⟨d, hd.len⟩ cnt f g k bt x y).1 : Nat)]) := by
  refine ACalls.fin (seek_Check.go ?_)
  unfold seek_Check.sh
  unfold seekC
  have ht : (true : Bool) = true := rfl
  have hff : ¬ (false : Bool) = true := by decide
  cases hA : holdsB b ⟨d, hd.len⟩ cnt x.1 x.2.1 x.2.2 with
  | false =>
    rw [if_neg (fun h => hff h.1)]
    repeat' (first | with_reducible apply Stp.go | with_reducible refine imp fun _ => ?_ | (with_reducible refine hyp ?_ ?_; first | assumption | exact leftT_mem (by assumption)) | (with_reducible refine need ?_ ?_; first | trivial | omega | exact ⟨by assumption, by omega⟩ | (simp only [List.length_append, List.length_cons, List.length_nil, List.length_map, List.length_take, List.length_drop, List.length_replicate, List.length_set]; omega)) | (with_reducible refine fact ?_ ?_; first | trivial | exact ⟨rfl, rfl⟩ | kernel_rfl) | with_reducible refine choT (by assumption) ?_ | with_reducible refine choF (by assumption) ?_ | with_reducible refine choF' (by assumption) ?_ | (with_reducible refine altT ?_ ?_; first | omega | (simp only [List.length_append, List.length_cons, List.length_nil, List.length_map, List.length_take, List.length_drop, List.length_replicate, List.length_set]; omega)) | with_reducible refine altF ?_ | with_reducible refine all fun _ => ?_ | with_reducible refine both ?_ ?_ | (with_reducible refine choT ?_ ?_; omega) | (with_reducible refine choF ?_ ?_; omega) | with_reducible refine cho (fun _ => ?_) (fun _ => ?_))
    all_goals exact ⟨_, _, _, rfl, Sub.app_nil _, rfl, rfl⟩
  | true =>
    cases hC : coversB f g k with
    | false =>
      rw [if_neg (fun h => hff h.2)]
      repeat' (first | with_reducible apply Stp.go | with_reducible refine imp fun _ => ?_ | (with_reducible refine hyp ?_ ?_; first | assumption | exact leftT_mem (by assumption)) | (with_reducible refine need ?_ ?_; first | trivial | omega | exact ⟨by assumption, by omega⟩ | (simp only [List.length_append, List.length_cons, List.length_nil, List.length_map, List.length_take, List.length_drop, List.length_replicate, List.length_set]; omega)) | (with_reducible refine fact ?_ ?_; first | trivial | exact ⟨rfl, rfl⟩ | kernel_rfl) | with_reducible refine choT (by assumption) ?_ | with_reducible refine choF (by assumption) ?_ | with_reducible refine choF' (by assumption) ?_ | (with_reducible refine altT ?_ ?_; first | omega | (simp only [List.length_append, List.length_cons, List.length_nil, List.length_map, List.length_take, List.length_drop, List.length_replicate, List.length_set]; omega)) | with_reducible refine altF ?_ | with_reducible refine all fun _ => ?_ | with_reducible refine both ?_ ?_ | (with_reducible refine choT ?_ ?_; omega) | (with_reducible refine choF ?_ ?_; omega) | with_reducible refine cho (fun _ => ?_) (fun _ => ?_))
      all_goals exact ⟨_, _, _, rfl, Sub.app_nil _, rfl, rfl⟩
    | true =>
      rw [if_pos ⟨ht, ht⟩]
      cases bt with
      | false =>
        rw [if_neg hff]
        repeat' (first | with_reducible apply Stp.go | with_reducible refine imp fun _ => ?_ | (with_reducible refine hyp ?_ ?_; first | assumption | exact leftT_mem (by assumption)) | (with_reducible refine need ?_ ?_; first | trivial | omega | exact ⟨by assumption, by omega⟩ | (simp only [List.length_append, List.length_cons, List.length_nil, List.length_map, List.length_take, List.length_drop, List.length_replicate, List.length_set]; omega)) | (with_reducible refine fact ?_ ?_; first | trivial | exact ⟨rfl, rfl⟩ | kernel_rfl) | with_reducible refine choT (by assumption) ?_ | with_reducible refine choF (by assumption) ?_ | with_reducible refine choF' (by assumption) ?_ | (with_reducible refine altT ?_ ?_; first | omega | (simp only [List.length_append, List.length_cons, List.length_nil, List.length_map, List.length_take, List.length_drop, List.length_replicate, List.length_set]; omega)) | with_reducible refine altF ?_ | with_reducible refine all fun _ => ?_ | with_reducible refine both ?_ ?_ | (with_reducible refine choT ?_ ?_; omega) | (with_reducible refine choF ?_ ?_; omega) | with_reducible refine cho (fun _ => ?_) (fun _ => ?_))
        all_goals
          refine ⟨_, _, _, rfl, Sub.app_nil _, ?_, rfl⟩
          first
          | (rw [if_pos (by simp_all)]; rfl)
          | (rw [if_neg (by simp_all)]; rfl)
      | true =>
        rw [if_pos ht]
        cases hB : holdsB b ⟨d, hd.len⟩ cnt y.1 y.2.1 y.2.2 with
        | false =>
          rw [if_neg (fun h => hff h.1)]
          repeat' (first | with_reducible apply Stp.go | with_reducible refine imp fun _ => ?_ | (with_reducible refine hyp ?_ ?_; first | assumption | exact leftT_mem (by assumption)) | (with_reducible refine need ?_ ?_; first | trivial | omega | exact ⟨by assumption, by omega⟩ | (simp only [List.length_append, List.length_cons, List.length_nil, List.length_map, List.length_take, List.length_drop, List.length_replicate, List.length_set]; omega)) | (with_reducible refine fact ?_ ?_; first | trivial | exact ⟨rfl, rfl⟩ | kernel_rfl) | with_reducible refine choT (by assumption) ?_ | with_reducible refine choF (by assumption) ?_ | with_reducible refine choF' (by assumption) ?_ | (with_reducible refine altT ?_ ?_; first | omega | (simp only [List.length_append, List.length_cons, List.length_nil, List.length_map, List.length_take, List.length_drop, List.length_replicate, List.length_set]; omega)) | with_reducible refine altF ?_ | with_reducible refine all fun _ => ?_ | with_reducible refine both ?_ ?_ | (with_reducible refine choT ?_ ?_; omega) | (with_reducible refine choF ?_ ?_; omega) | with_reducible refine cho (fun _ => ?_) (fun _ => ?_))
          all_goals exact ⟨_, _, _, rfl, Sub.app_nil _, rfl, rfl⟩
        | true =>
          obtain ⟨b1, b2⟩ := holdsB_in hB
          rw [lt_flip k (parseV y.2.1).key]
          repeat' (first | with_reducible apply Stp.go | with_reducible refine imp fun _ => ?_ | (with_reducible refine hyp ?_ ?_; first | assumption | exact leftT_mem (by assumption)) | (with_reducible refine need ?_ ?_; first | trivial | omega | exact ⟨by assumption, by omega⟩ | (simp only [List.length_append, List.length_cons, List.length_nil, List.length_map, List.length_take, List.length_drop, List.length_replicate, List.length_set]; omega)) | (with_reducible refine fact ?_ ?_; first | trivial | exact ⟨rfl, rfl⟩ | kernel_rfl) | with_reducible refine choT (by assumption) ?_ | with_reducible refine choF (by assumption) ?_ | with_reducible refine choF' (by assumption) ?_ | (with_reducible refine altT ?_ ?_; first | omega | (simp only [List.length_append, List.length_cons, List.length_nil, List.length_map, List.length_take, List.length_drop, List.length_replicate, List.length_set]; omega)) | with_reducible refine altF ?_ | with_reducible refine all fun _ => ?_ | with_reducible refine both ?_ ?_ | (with_reducible refine choT ?_ ?_; omega) | (with_reducible refine choF ?_ ?_; omega) | with_reducible refine cho (fun _ => ?_) (fun _ => ?_))
          all_goals
            refine ⟨_, _, _, rfl, Sub.app_nil _, ?_, rfl⟩
            first
            | (rw [if_pos (by simp_all [lt])]; rfl)
            | (rw [if_neg (by intro hcc; simp_all [lt])]; rfl)
instance {b lev cnt : Int} {d f g k : List UInt8} [hd : Len32 d] {bt : Bool} {x y : Opn} : PC Go.Proofs.Try.prog 23 [trA b, tabA lev cnt d f g, S k, ptA bt x y] (cnt ≤ 9223372036854775807 ∧ x.2.1.length ≤ 100000000000000 ∧ y.2.1.length ≤ 100000000000000) (.tuple [(seekC b ⟨d, hd.len⟩ cnt f g k bt x y).2.2.av, B (seekC b ⟨d, hd.len⟩ cnt f g k bt x y).2.1, I .i64 ((seekC b ⟨d, hd.len⟩ cnt f g k bt x y).1 : Nat)]) := ⟨fun hl => PC.of (seekCheck_ok b lev cnt d f g k bt x y hl.1 hl.2.1 hl.2.2)⟩
end Go.Ab

/- What a table has of some keys, proved. -/
set_option linter.unusedVariables false
set_option linter.unusedSimpArgs false
namespace Go.Ab
/-- Some keys may be a table's. -/
def spanOk (l : List En) (lo hi : List UInt8) : Bool := !lt (l.getD (l.length - 1) default).key lo && (belowB (l.getD 0 default).key hi && belowB lo hi)
def spFrom (l : List En) (lo : List UInt8) : Nat := placeN l lo - 1
def spTo (l : List En) (hi : List UInt8) : Nat := min ((if hi = [] then l.length else placeN l hi) + 1) l.length
theorem spanOk_lt {l : List En} {lo hi : List UInt8} (hr : Rises l) (h0 : 0 < l.length) (h : spanOk l lo hi = true) : placeN l lo < l.length ∧ spFrom l lo < spTo l hi ∧ spTo l hi ≤ l.length := by
  unfold spanOk at h
  simp only [Bool.and_eq_true, Bool.not_eq_true'] at h
  obtain ⟨h1, h2, h3⟩ := h
  have hl := placeN_le l lo
  have h4 : placeN l lo < l.length := by
    rcases Nat.lt_or_ge (placeN l lo) l.length with h | h
    · exact h
    · exfalso
      have := (place_at hr lo (show l.length - 1 < l.length by omega)).2 (by omega)
      rw [h1] at this; cases this
  refine ⟨h4, ?_, by unfold spTo; omega⟩
  unfold spFrom spTo
  split
  · omega
  · rename_i hn
    have h5 : lt lo hi = true := by
      unfold belowB at h3
      rw [decide_eq_false hn, Bool.false_or] at h3
      exact h3
    have h6 : placeN l lo ≤ placeN l hi := by
      rcases Nat.lt_or_ge (placeN l hi) (placeN l lo) with h | h
      · have a1 := (place_at hr lo (show placeN l hi < l.length by omega)).2 h
        have a2 := (place_at hr hi (show placeN l hi < l.length by omega)).1 (lt_trans' a1 h5)
        omega
      · exact h
    omega
/-- An opening of some leaves, as a value. -/
abbrev spA (p : Int) (L : List (List UInt8)) (d : List D32) : AV := .agg [I .i64 p, .lst 1 (L.map bl) .ro, .lst 32 (d.map dgF) .ro]
/-- What is proved of some keys. -/
def spanP (b : Int) (l : List En) (lo hi : List UInt8) : Nat × Nat × List (List UInt8) × List D32 :=
  if fit l = true then
    if spanOk l lo hi = true then (0, spFrom l lo, ((l.map enB).take (spTo l hi)).drop (spFrom l lo), bsD b (l.map enB) (spFrom l lo) (spTo l hi))
    else (5, 0, [], [])
  else (1, 0, [], [])
theorem spSub (a : AV) : SubV (.agg [a, nilV, nilV]) (.agg [a, .lst 1 [] .ro, .lst 32 [] .ro]) := SubV.agg (.mk (SubV.refl _) (.mk (subNil 1 (by decide)) (.mk (subNil 32 (by decide)) .nl)))
def seek_ProveSpan.mark : Mark := ⟨fun t => Nat.beq t 17 || Nat.beq t 35 || Nat.beq t 41 || Nat.beq t 48 || Nat.beq t 58 || Nat.beq t 70, fun t => false, fun t => Nat.beq t 4, fun t => Nat.beq t 26 || Nat.beq t 33 || Nat.beq t 72, fun t => false⟩
def seek_ProveSpan.ann : Ann := ⟨fun n => [], fun n => bif Nat.beq n 9 then some [1, 4, 8, 10, 12] else none, fun n => none⟩
/-- 'marlstone/seek.ProveSpan' -/
def seek_ProveSpan.sh (a0 a1 a2 a3 : AV) (σ : Store) (Q : AEnd → Store → Prop) : Prop :=
  Do (aFreeze ((a0 : AV)).cells) fun t4 =>
  aNewVar 39 [.val (.int .i64 0), .val (.slice none 0 0), .val (.slice none 0 0)] σ fun t8 σ =>
  Do (aPureC Go.Proofs.Try.prog 36 [a1]) fun t17 =>
  Do (aUn Go.Proofs.Try.prog .not t17) fun t18 =>
  aCond t18
    (Do (aLit [.val (.int .i64 0), .val (.slice none 0 0), .val (.slice none 0 0)] [(0, 1), (1, 1), (2, 1)] []) fun t19 =>
    storeA 3 t8 t19 σ fun u σ_1 =>
    Do (loadA true 3 t8 σ_1) fun r8 => Q (.ret (.tuple [r8, (.val (.int .i64 1))])) σ_1)
    (Do (aBuiltin Go.Proofs.Try.prog .len #[22] [a1]) fun t22 =>
  Do (aBin Go.Proofs.Try.prog .sub 3 t22 (.val (.int .i64 1))) fun t23 =>
  Do (aIndexAddr .slice 4 a1 t23) fun t24 =>
  Do (aFieldAddr 0 1 t24) fun t25 =>
  Do (loadF false 1 t25) fun t26 =>
  Do (aBin Go.Proofs.Try.prog .lss 9 t26 a2) fun t28 =>
  Do (aGuard t28 false (aIs a1)) fun t30 =>
  Do (aGuard t28 false (aIndexAddr .slice 4 t30 (.val (.int .i64 0)))) fun t31 =>
  Do (aGuard t28 false (aFieldAddr 0 1 t31)) fun t32 =>
  Do (aGuard t28 false (loadF false 1 t32)) fun t33 =>
  Do (aGuard t28 false (aIs a3)) fun t34 =>
  Do (aGuard t28 false (aPureC Go.Proofs.Try.prog 43 [t33, t34])) fun t35 =>
  Do (aGuard t28 false (aUn Go.Proofs.Try.prog .not t35)) fun t36 =>
  Do (aPick t28 (.val (.bool true)) t36) fun t37 =>
  Do (aGuard t37 false (aIs a2)) fun t39 =>
  Do (aGuard t37 false (aIs a3)) fun t40 =>
  Do (aGuard t37 false (aPureC Go.Proofs.Try.prog 43 [t39, t40])) fun t41 =>
  Do (aGuard t37 false (aUn Go.Proofs.Try.prog .not t41)) fun t42 =>
  Do (aPick t37 (.val (.bool true)) t42) fun t43 =>
  aCond t43
    (Do (aLit [.val (.int .i64 0), .val (.slice none 0 0), .val (.slice none 0 0)] [(0, 1), (1, 1), (2, 1)] []) fun t44 =>
    storeA 3 t8 t44 σ fun u_1 σ_2 =>
    Do (loadA true 3 t8 σ_2) fun r8_1 => Q (.ret (.tuple [r8_1, (.val (.int .i64 5))])) σ_2)
    (Do (aPureC Go.Proofs.Try.prog 37 [a1, a2]) fun t48 =>
  Do (aExt t48 0) fun t49 =>
  Do (aExt t48 1) fun t50 =>
  Do (aBuiltin Go.Proofs.Try.prog .len #[22] [a1]) fun t52 =>
  aJoin (fun j =>
    Do (aBin Go.Proofs.Try.prog .neq 9 a3 (.val (.string ⟨#[]⟩))) fun t54 =>
    aCond t54
      (Do (aPureC Go.Proofs.Try.prog 37 [a1, a3]) fun t58 =>
      Do (aExt t58 0) fun t59 =>
      Do (aExt t58 1) fun t60 =>
      j [a1, t4, t8, t49, t59] σ)
      (j [a1, t4, t8, t49, t52] σ)) fun vs σ_3 =>
  At vs 0 fun s1 => At vs 1 fun s4 => At vs 2 fun s8 => At vs 3 fun s10 => At vs 4 fun s12 => Do (aBin Go.Proofs.Try.prog .sub 3 s10 (.val (.int .i64 1))) fun t62 =>
  Do (aBuiltin Go.Proofs.Try.prog .max #[3, 3] [t62, (.val (.int .i64 0))]) fun t63 =>
  Do (aBin Go.Proofs.Try.prog .add 3 s12 (.val (.int .i64 1))) fun t65 =>
  Do (aBuiltin Go.Proofs.Try.prog .len #[22] [s1]) fun t67 =>
  Do (aBuiltin Go.Proofs.Try.prog .min #[3, 3] [t65, t67]) fun t68 =>
  Do (aPureC Go.Proofs.Try.prog 32 [s1]) fun t70 =>
  Do (loadF true 1 s4) fun t72 =>
  aCall Go.Proofs.Try.prog 44 [t72, t70, t63, t68] σ_3 (fun t76 σ_4 =>
  Do (aExt t76 0) fun t77 =>
  Do (aExt t76 1) fun t78 =>
  Do (aSlice .slice 1 t70 (some t63) (some t68) none) fun t83 =>
  Do (aLit [.val (.int .i64 0), .val (.slice none 0 0), .val (.slice none 0 0)] [(0, 1), (1, 1), (2, 1)] [(0, t63), (1, t83), (2, t77)]) fun t85 =>
  storeA 3 s8 t85 σ_4 fun u_2 σ_5 =>
  Do (loadA true 3 s8 σ_5) fun r8_2 => Q (.ret (.tuple [r8_2, (.val (.int .i64 0))])) σ_5) (fun e σ_6 => Q (.pan e) σ_6)))
theorem seek_ProveSpan.eq (a0 a1 a2 a3 : AV) (σ : Store) (Q : AEnd → Store → Prop) : vc (semOf Go.Proofs.Try.prog seek_ProveSpan.mark) Go.Proofs.Try.f14.ntmps seek_ProveSpan.ann (bodyOf Go.Proofs.Try.f14) (endK [.cell 8 true 3, .tmp 9] Q) (argFr [a0, a1, a2, a3]) σ = seek_ProveSpan.sh a0 a1 a2 a3 σ Q := by kernel_rfl
theorem seek_ProveSpan.go {a0 a1 a2 a3 : AV} {σ : Store} {Q : AEnd → Store → Prop} (h : seek_ProveSpan.sh a0 a1 a2 a3 σ Q) : ACalls Go.Proofs.Try.prog 14 [a0, a1, a2, a3] σ Q :=
  acalls_of_eq [.cell 8 true 3, .tmp 9] Go.Proofs.Try.func14 (by kernel_rfl) (by kernel_rfl) (by kernel_rfl) (by kernel_rfl) (seek_ProveSpan.eq a0 a1 a2 a3 σ Q) h
theorem ProveSpan_ok (b : Int) (l : List En) (m : SM) (lo hi : List UInt8) (hl : l.length ≤ 1000000) : aPure Go.Proofs.Try.prog 14 [trA b, .lst 4 (l.map En.av) m, S lo, S hi] (.tuple [spA ((spanP b l lo hi).2.1 : Nat) (spanP b l lo hi).2.2.1 (spanP b l lo hi).2.2.2, I .i64 ((spanP b l lo hi).1 : Nat)]) := by
  refine ACalls.fin (seek_ProveSpan.go ?_)
  unfold seek_ProveSpan.sh
  have hb : ∀ b ∈ l.map enB, b.length ≤ 100000000000000 := fun b h => by
    obtain ⟨e, _, rfl⟩ := List.mem_map.1 h
    have := enB_length e
    omega
  have hml : (l.map enB).length = l.length := by simp
  have hL : (l.map enB).length ≤ 1000000 := by omega
  by_cases hf : fit l = true
  · have hr : Rises l := (sorted_iff l).1 (fit_right hf).2.2.1
    have h0 : 0 < l.length := (fit_right hf).2.1
    by_cases hs : spanOk l lo hi = true
    · obtain ⟨g1, g2, g3⟩ := spanOk_lt hr h0 hs
      have hs' := hs
      unfold spanOk at hs'
      simp only [Bool.and_eq_true, Bool.not_eq_true'] at hs'
      obtain ⟨s1, s2, s3⟩ := hs'
      have e : spanP b l lo hi = (0, spFrom l lo, ((l.map enB).take (spTo l hi)).drop (spFrom l lo), bsD b (l.map enB) (spFrom l lo) (spTo l hi)) := by rw [spanP, if_pos hf, if_pos hs]
      rw [e]
      have q1 : spFrom l lo < spTo l hi ∧ spTo l hi ≤ (l.map enB).length ∧ (l.map enB).length ≤ 1000000 ∧ ∀ b ∈ l.map enB, b.length ≤ 100000000000000 := ⟨g2, by omega, hL, hb⟩
      obtain ⟨z, hz⟩ : ∃ z : Nat, z = if hi = [] then l.length else placeN l hi := ⟨_, rfl⟩
      have hto : min (z + 1) l.length = spTo l hi := by rw [hz]; rfl
      have hpz := placeN_le l hi
      have hzl : z ≤ l.length := by rw [hz]; split <;> omega
      repeat' (first | with_reducible apply Stp.go | with_reducible refine imp fun _ => ?_ | (with_reducible refine hyp ?_ ?_; first | assumption | exact leftT_mem (by assumption)) | (with_reducible refine need ?_ ?_; first | trivial | omega | exact ⟨by assumption, by omega⟩ | (simp only [List.length_append, List.length_cons, List.length_nil, List.length_map, List.length_take, List.length_drop, List.length_replicate, List.length_set]; omega)) | (with_reducible refine fact ?_ ?_; first | trivial | exact ⟨rfl, rfl⟩ | kernel_rfl) | with_reducible refine choT (by assumption) ?_ | with_reducible refine choF (by assumption) ?_ | with_reducible refine choF' (by assumption) ?_ | (with_reducible refine altT ?_ ?_; first | omega | (simp only [List.length_append, List.length_cons, List.length_nil, List.length_map, List.length_take, List.length_drop, List.length_replicate, List.length_set]; omega)) | with_reducible refine altF ?_ | with_reducible refine all fun _ => ?_ | with_reducible refine both ?_ ?_ | (with_reducible refine choT ?_ ?_; omega) | (with_reducible refine choF ?_ ?_; omega) | with_reducible refine cho (fun _ => ?_) (fun _ => ?_))
      rename_i w
      refine joinI (β := Unit) (fun _ => True) (fun _ => [.lst 4 (l.map En.av) m, .rptr [I .i64 b], ptrAt w 0, I .i64 (placeN l lo : Nat), I .i64 (z : Nat)]) (fun _ => [.var w 39 [.val (.int .i64 0), .val (.slice none 0 0), .val (.slice none 0 0)]]) ?_ ?_
      · by_cases hh : hi = []
        · rw [if_pos hh] at hz
          subst hh
          have hnn : ([] : List UInt8) = [] := rfl
          rw [hz]
          repeat' (first | with_reducible apply Stp.go | with_reducible refine imp fun _ => ?_ | (with_reducible refine hyp ?_ ?_; first | assumption | exact leftT_mem (by assumption)) | (with_reducible refine need ?_ ?_; first | trivial | omega | exact ⟨by assumption, by omega⟩ | (simp only [List.length_append, List.length_cons, List.length_nil, List.length_map, List.length_take, List.length_drop, List.length_replicate, List.length_set]; omega)) | (with_reducible refine fact ?_ ?_; first | trivial | exact ⟨rfl, rfl⟩ | kernel_rfl) | with_reducible refine choT (by assumption) ?_ | with_reducible refine choF (by assumption) ?_ | with_reducible refine choF' (by assumption) ?_ | (with_reducible refine altT ?_ ?_; first | omega | (simp only [List.length_append, List.length_cons, List.length_nil, List.length_map, List.length_take, List.length_drop, List.length_replicate, List.length_set]; omega)) | with_reducible refine altF ?_ | with_reducible refine all fun _ => ?_ | with_reducible refine both ?_ ?_ | (with_reducible refine choT ?_ ?_; omega) | (with_reducible refine choF ?_ ?_; omega) | with_reducible refine cho (fun _ => ?_) (fun _ => ?_))
          exact meet () trivial (Sub.refl _ _)
        · rw [if_neg hh] at hz
          rw [hz]
          repeat' (first | with_reducible apply Stp.go | with_reducible refine imp fun _ => ?_ | (with_reducible refine hyp ?_ ?_; first | assumption | exact leftT_mem (by assumption)) | (with_reducible refine need ?_ ?_; first | trivial | omega | exact ⟨by assumption, by omega⟩ | (simp only [List.length_append, List.length_cons, List.length_nil, List.length_map, List.length_take, List.length_drop, List.length_replicate, List.length_set]; omega)) | (with_reducible refine fact ?_ ?_; first | trivial | exact ⟨rfl, rfl⟩ | kernel_rfl) | with_reducible refine choT (by assumption) ?_ | with_reducible refine choF (by assumption) ?_ | with_reducible refine choF' (by assumption) ?_ | (with_reducible refine altT ?_ ?_; first | omega | (simp only [List.length_append, List.length_cons, List.length_nil, List.length_map, List.length_take, List.length_drop, List.length_replicate, List.length_set]; omega)) | with_reducible refine altF ?_ | with_reducible refine all fun _ => ?_ | with_reducible refine both ?_ ?_ | (with_reducible refine choT ?_ ?_; omega) | (with_reducible refine choF ?_ ?_; omega) | with_reducible refine cho (fun _ => ?_) (fun _ => ?_))
          exact meet () trivial (Sub.refl _ _)
      · rintro ⟨⟩ _
        by_cases hp0 : placeN l lo = 0
        · have hfr : max (((placeN l lo : Nat) : Int) - 1) 0 = ((spFrom l lo : Nat) : Int) := by unfold spFrom; omega
          repeat' (first | with_reducible apply Stp.go | with_reducible refine imp fun _ => ?_ | (with_reducible refine hyp ?_ ?_; first | assumption | exact leftT_mem (by assumption)) | (with_reducible refine need ?_ ?_; first | trivial | omega | exact ⟨by assumption, by omega⟩ | (simp only [List.length_append, List.length_cons, List.length_nil, List.length_map, List.length_take, List.length_drop, List.length_replicate, List.length_set]; omega)) | (with_reducible refine fact ?_ ?_; first | trivial | exact ⟨rfl, rfl⟩ | kernel_rfl) | with_reducible refine choT (by assumption) ?_ | with_reducible refine choF (by assumption) ?_ | with_reducible refine choF' (by assumption) ?_ | (with_reducible refine altT ?_ ?_; first | omega | (simp only [List.length_append, List.length_cons, List.length_nil, List.length_map, List.length_take, List.length_drop, List.length_replicate, List.length_set]; omega)) | with_reducible refine altF ?_ | with_reducible refine all fun _ => ?_ | with_reducible refine both ?_ ?_ | (with_reducible refine choT ?_ ?_; omega) | (with_reducible refine choF ?_ ?_; omega) | with_reducible refine cho (fun _ => ?_) (fun _ => ?_))
          rw [hto, hfr]
          repeat' (first | with_reducible apply Stp.go | with_reducible refine imp fun _ => ?_ | (with_reducible refine hyp ?_ ?_; first | assumption | exact leftT_mem (by assumption)) | (with_reducible refine need ?_ ?_; first | trivial | omega | exact ⟨by assumption, by omega⟩ | (simp only [List.length_append, List.length_cons, List.length_nil, List.length_map, List.length_take, List.length_drop, List.length_replicate, List.length_set]; omega)) | (with_reducible refine fact ?_ ?_; first | trivial | exact ⟨rfl, rfl⟩ | kernel_rfl) | with_reducible refine choT (by assumption) ?_ | with_reducible refine choF (by assumption) ?_ | with_reducible refine choF' (by assumption) ?_ | (with_reducible refine altT ?_ ?_; first | omega | (simp only [List.length_append, List.length_cons, List.length_nil, List.length_map, List.length_take, List.length_drop, List.length_replicate, List.length_set]; omega)) | with_reducible refine altF ?_ | with_reducible refine all fun _ => ?_ | with_reducible refine both ?_ ?_ | (with_reducible refine choT ?_ ?_; omega) | (with_reducible refine choF ?_ ?_; omega) | with_reducible refine cho (fun _ => ?_) (fun _ => ?_))
          exact ⟨_, _, _, rfl, Sub.app_nil _, rfl, rfl⟩
        · have hfr : max (placeN l lo - 1) 0 = spFrom l lo := by unfold spFrom; omega
          repeat' (first | with_reducible apply Stp.go | with_reducible refine imp fun _ => ?_ | (with_reducible refine hyp ?_ ?_; first | assumption | exact leftT_mem (by assumption)) | (with_reducible refine need ?_ ?_; first | trivial | omega | exact ⟨by assumption, by omega⟩ | (simp only [List.length_append, List.length_cons, List.length_nil, List.length_map, List.length_take, List.length_drop, List.length_replicate, List.length_set]; omega)) | (with_reducible refine fact ?_ ?_; first | trivial | exact ⟨rfl, rfl⟩ | kernel_rfl) | with_reducible refine choT (by assumption) ?_ | with_reducible refine choF (by assumption) ?_ | with_reducible refine choF' (by assumption) ?_ | (with_reducible refine altT ?_ ?_; first | omega | (simp only [List.length_append, List.length_cons, List.length_nil, List.length_map, List.length_take, List.length_drop, List.length_replicate, List.length_set]; omega)) | with_reducible refine altF ?_ | with_reducible refine all fun _ => ?_ | with_reducible refine both ?_ ?_ | (with_reducible refine choT ?_ ?_; omega) | (with_reducible refine choF ?_ ?_; omega) | with_reducible refine cho (fun _ => ?_) (fun _ => ?_))
          rw [hto, hfr]
          repeat' (first | with_reducible apply Stp.go | with_reducible refine imp fun _ => ?_ | (with_reducible refine hyp ?_ ?_; first | assumption | exact leftT_mem (by assumption)) | (with_reducible refine need ?_ ?_; first | trivial | omega | exact ⟨by assumption, by omega⟩ | (simp only [List.length_append, List.length_cons, List.length_nil, List.length_map, List.length_take, List.length_drop, List.length_replicate, List.length_set]; omega)) | (with_reducible refine fact ?_ ?_; first | trivial | exact ⟨rfl, rfl⟩ | kernel_rfl) | with_reducible refine choT (by assumption) ?_ | with_reducible refine choF (by assumption) ?_ | with_reducible refine choF' (by assumption) ?_ | (with_reducible refine altT ?_ ?_; first | omega | (simp only [List.length_append, List.length_cons, List.length_nil, List.length_map, List.length_take, List.length_drop, List.length_replicate, List.length_set]; omega)) | with_reducible refine altF ?_ | with_reducible refine all fun _ => ?_ | with_reducible refine both ?_ ?_ | (with_reducible refine choT ?_ ?_; omega) | (with_reducible refine choF ?_ ?_; omega) | with_reducible refine cho (fun _ => ?_) (fun _ => ?_))
          exact ⟨_, _, _, rfl, Sub.app_nil _, rfl, rfl⟩
    · have e : spanP b l lo hi = (5, 0, [], []) := by rw [spanP, if_pos hf, if_neg hs]
      rw [e]
      have hs' := hs
      unfold spanOk at hs'
      repeat' (first | with_reducible apply Stp.go | with_reducible refine imp fun _ => ?_ | (with_reducible refine hyp ?_ ?_; first | assumption | exact leftT_mem (by assumption)) | (with_reducible refine need ?_ ?_; first | trivial | omega | exact ⟨by assumption, by omega⟩ | (simp only [List.length_append, List.length_cons, List.length_nil, List.length_map, List.length_take, List.length_drop, List.length_replicate, List.length_set]; omega)) | (with_reducible refine fact ?_ ?_; first | trivial | exact ⟨rfl, rfl⟩ | kernel_rfl) | with_reducible refine choT (by assumption) ?_ | with_reducible refine choF (by assumption) ?_ | with_reducible refine choF' (by assumption) ?_ | (with_reducible refine altT ?_ ?_; first | omega | (simp only [List.length_append, List.length_cons, List.length_nil, List.length_map, List.length_take, List.length_drop, List.length_replicate, List.length_set]; omega)) | with_reducible refine altF ?_ | with_reducible refine all fun _ => ?_ | with_reducible refine both ?_ ?_ | (with_reducible refine choT ?_ ?_; omega) | (with_reducible refine choF ?_ ?_; omega) | with_reducible refine cho (fun _ => ?_) (fun _ => ?_))
      all_goals first
        | exact ⟨_, _, _, rfl, Sub.trans (Sub.app_nil _) (Sub.tuple (Sub.vals (.mk (spSub _) (.mk (SubV.refl _) .nl)))), rfl, rfl⟩
        | (exfalso; simp_all [lt])
  · have e : spanP b l lo hi = (1, 0, [], []) := by rw [spanP, if_neg hf]
    rw [e]
    repeat' (first | with_reducible apply Stp.go | with_reducible refine imp fun _ => ?_ | (with_reducible refine hyp ?_ ?_; first | assumption | exact leftT_mem (by assumption)) | (with_reducible refine need ?_ ?_; first | trivial | omega | exact ⟨by assumption, by omega⟩ | (simp only [List.length_append, List.length_cons, List.length_nil, List.length_map, List.length_take, List.length_drop, List.length_replicate, List.length_set]; omega)) | (with_reducible refine fact ?_ ?_; first | trivial | exact ⟨rfl, rfl⟩ | kernel_rfl) | with_reducible refine choT (by assumption) ?_ | with_reducible refine choF (by assumption) ?_ | with_reducible refine choF' (by assumption) ?_ | (with_reducible refine altT ?_ ?_; first | omega | (simp only [List.length_append, List.length_cons, List.length_nil, List.length_map, List.length_take, List.length_drop, List.length_replicate, List.length_set]; omega)) | with_reducible refine altF ?_ | with_reducible refine all fun _ => ?_ | with_reducible refine both ?_ ?_ | (with_reducible refine choT ?_ ?_; omega) | (with_reducible refine choF ?_ ?_; omega) | with_reducible refine cho (fun _ => ?_) (fun _ => ?_))
    exact ⟨_, _, _, rfl, Sub.trans (Sub.app_nil _) (Sub.tuple (Sub.vals (.mk (spSub _) (.mk (SubV.refl _) .nl)))), rfl, rfl⟩
instance {a : AV} {l : List En} {m : SM} {b : Int} {lo hi : List UInt8} [h : IsL a En.av 4 l m] : PC Go.Proofs.Try.prog 14 [trA b, a, S lo, S hi] (l.length ≤ 1000000) (.tuple [spA ((spanP b l lo hi).2.1 : Nat) (spanP b l lo hi).2.2.1 (spanP b l lo hi).2.2.2, I .i64 ((spanP b l lo hi).1 : Nat)]) := ⟨fun hl => ⟨[trA b, .lst 4 (l.map En.av) m, S lo, S hi], ⟨SubV.refl _, h.sub, SubV.refl _, SubV.refl _, trivial⟩, ProveSpan_ok b l m lo hi hl⟩⟩
end Go.Ab

/- Leaves held against a root. -/
set_option linter.unusedVariables false
set_option linter.unusedSimpArgs false
namespace Go.Ab
/-- The next of a path; none: it is bad. -/
def popD (s : List D32 × Bool) : D32 × (List D32 × Bool) := match s with
  | ([], _) => (⟨zeroD, Len32.len⟩, ([], true))
  | (x :: xs, c) => (x, (xs, c))
/-- The root of so many leaves, of which a part is there; what is left of the path. -/
def rootR (b : Int) (part : List (List UInt8)) (cnt : Nat) (p : Int) (s : List D32 × Bool) : D32 × (List D32 × Bool) :=
  if p + part.length ≤ 0 ∨ (cnt : Int) ≤ p then popD s
  else if h : cnt ≤ 1 then (⟨leafD b (part.getD (-p).toNat default), Len32.len⟩, s)
  else
    let x := rootR b part (halfN cnt) p s
    let y := rootR b part (cnt - halfN cnt) (p - halfN cnt) x.2
    (⟨nodeD b x.1.val y.1.val, Len32.len⟩, y.2)
termination_by cnt
decreasing_by
  · have := halfN_lt (n := cnt) (by omega); omega
  · have := halfN_lt (n := cnt) (by omega); omega
theorem popD_le (s : List D32 × Bool) : (popD s).2.1.length ≤ s.1.length := by
  unfold popD
  split <;> simp
section rootR
variable {b : Int} {part : List (List UInt8)} {cnt : Nat} {p : Int} {s : List D32 × Bool}
theorem rootR_out (h : p + part.length ≤ 0 ∨ (cnt : Int) ≤ p) : rootR b part cnt p s = popD s := by unfold rootR; rw [if_pos h]
theorem rootR_one (h : ¬ (p + part.length ≤ 0 ∨ (cnt : Int) ≤ p)) (h1 : cnt ≤ 1) : rootR b part cnt p s = (⟨leafD b (part.getD (-p).toNat default), Len32.len⟩, s) := by unfold rootR; rw [if_neg h, dif_pos h1]
theorem rootR_two (h : ¬ (p + part.length ≤ 0 ∨ (cnt : Int) ≤ p)) (h1 : ¬ cnt ≤ 1) : rootR b part cnt p s = (⟨nodeD b (rootR b part (halfN cnt) p s).1.val (rootR b part (cnt - halfN cnt) (p - halfN cnt) (rootR b part (halfN cnt) p s).2).1.val, Len32.len⟩, (rootR b part (cnt - halfN cnt) (p - halfN cnt) (rootR b part (halfN cnt) p s).2).2) := by
  conv => lhs; unfold rootR
  rw [if_neg h, dif_neg h1]
theorem bsD_out {L : List (List UInt8)} {q : Int} (h : q ≤ 0 ∨ (L.length : Int) ≤ p) : bsD b L p q = [rootF b L] := by unfold bsD; rw [if_pos h]
theorem bsD_one {L : List (List UInt8)} {q : Int} (h : ¬ (q ≤ 0 ∨ (L.length : Int) ≤ p)) (h1 : L.length ≤ 1) : bsD b L p q = [] := by unfold bsD; rw [if_neg h, dif_pos h1]
theorem bsD_two {L : List (List UInt8)} {q : Int} (h : ¬ (q ≤ 0 ∨ (L.length : Int) ≤ p)) (h1 : ¬ L.length ≤ 1) : bsD b L p q = bsD b (L.take (halfN L.length)) p q ++ bsD b (L.drop (halfN L.length)) (p - (halfN L.length : Nat)) (q - (halfN L.length : Nat)) := by
  conv => lhs; unfold bsD
  rw [if_neg h, dif_neg h1]
end rootR
theorem rootR_le (b : Int) (part : List (List UInt8)) : ∀ (n cnt : Nat) (p : Int) (s : List D32 × Bool), cnt = n → (rootR b part cnt p s).2.1.length ≤ s.1.length := by
  intro n
  induction n using Nat.strongRecOn with
  | _ n ih =>
    intro cnt p s hn
    unfold rootR
    split
    · exact popD_le s
    · split
      · exact Nat.le_refl _
      · have hh := halfN_lt (n := cnt) (by omega)
        have i1 := ih (halfN cnt) (by omega) _ p s rfl
        have i2 := ih (cnt - halfN cnt) (by omega) _ (p - halfN cnt) (rootR b part (halfN cnt) p s).2 rfl
        exact Nat.le_trans i2 i1
/-- What stands beside some leaves leads to the root. -/
theorem rootR_bs (b : Int) (part : List (List UInt8)) : ∀ (n : Nat) (L : List (List UInt8)) (p : Int) (rest : List D32) (c : Bool), L.length = n → 0 < n → (∀ j : Nat, j < n → p ≤ j → (j : Int) < p + part.length → part.getD ((j : Int) - p).toNat default = L.getD j default) →
    rootR b part n p (bsD b L p (p + part.length) ++ rest, c) = (rootF b L, rest, c) := by
  intro n
  induction n using Nat.strongRecOn with
  | _ n ih =>
    intro L p rest c hn h0 hp
    by_cases h1 : p + part.length ≤ 0 ∨ (n : Int) ≤ p
    · rw [rootR_out h1, bsD_out (by omega)]
      rfl
    · by_cases h2 : n ≤ 1
      · rw [rootR_one h1 h2, bsD_one (by omega) (by omega)]
        have h3 := hp 0 (by omega) (by omega) (by omega)
        have e3 : rootD b L = leafD b (L.getD 0 default) := by unfold rootD; rw [dif_neg (by omega), dif_pos (by omega)]
        have e4 : (-p).toNat = ((0 : Nat) - p : Int).toNat := by congr 1; omega
        have e5 : part.getD (-p).toNat default = L.getD 0 default := by rw [e4]; exact h3
        have e6 : (⟨leafD b (part.getD (-p).toNat default), Len32.len⟩ : D32) = rootF b L := by simp only [rootF, e3, e5]
        rw [e6, List.nil_append]
      · rw [rootR_two h1 h2, bsD_two (by omega) (by omega)]
        have hh := halfN_lt (n := n) (by omega)
        have l1 : (L.take (halfN n)).length = halfN n := by rw [List.length_take]; omega
        have l2 : (L.drop (halfN n)).length = n - halfN n := by rw [List.length_drop, hn]
        have e3 : rootD b L = nodeD b (rootD b (L.take (halfN n))) (rootD b (L.drop (halfN n))) := by
          conv => lhs; unfold rootD
          rw [dif_neg (by omega), dif_neg (by omega), hn]
        have q1 := ih (halfN n) hh.2 (L.take (halfN n)) p (bsD b (L.drop (halfN n)) (p - (halfN n : Nat)) (p + part.length - (halfN n : Nat)) ++ rest) c l1 hh.1 (fun j h3 h4 h5 => by
          rw [hp j (by omega) h4 h5, List.getD_eq_getElem?_getD, List.getD_eq_getElem?_getD, List.getElem?_take, if_pos h3])
        have q2 := ih (n - halfN n) (by omega) (L.drop (halfN n)) (p - (halfN n : Nat)) rest c l2 (by omega) (fun j h3 h4 h5 => by
          have h6 := hp (halfN n + j) (by omega) (by omega) (by omega)
          have e6 : ((halfN n + j : Nat) : Int) - p = (j : Int) - (p - (halfN n : Nat)) := by omega
          rw [e6] at h6
          rw [h6, List.getD_eq_getElem?_getD, List.getD_eq_getElem?_getD, List.getElem?_drop])
        have e5 : p - (halfN n : Nat) + part.length = p + part.length - (halfN n : Nat) := by omega
        rw [e5] at q2
        rw [hn, List.append_assoc]
        simp only [q1, q2, rootF, e3]
/-- Nothing stands beside all leaves. -/
theorem bsD_all (b : Int) : ∀ (n : Nat) (L : List (List UInt8)) (p q : Int), L.length = n → 0 < n → p ≤ 0 → (n : Int) ≤ q → bsD b L p q = [] := by
  intro n
  induction n using Nat.strongRecOn with
  | _ n ih =>
    intro L p q hn h0 h1 h2
    unfold bsD
    rw [if_neg (by omega)]
    split
    · rfl
    · rename_i h
      have hh := halfN_lt (n := n) (by omega)
      have l1 : (L.take (halfN n)).length = halfN n := by rw [List.length_take]; omega
      have l2 : (L.drop (halfN n)).length = n - halfN n := by rw [List.length_drop, hn]
      rw [hn, ih (halfN n) hh.2 _ p q l1 hh.1 h1 (by omega), ih (n - halfN n) (by omega) _ _ _ l2 (by omega) (by omega) (by omega)]
      rfl
/-- Are leaves under a root. -/
def checkR (b : Int) (root : D32) (cnt p : Int) (part : List (List UInt8)) (path : List D32) : Bool :=
  decide (0 < part.length ∧ 0 ≤ p ∧ (part.length : Int) ≤ cnt ∧ p ≤ cnt - part.length) &&
    ((!(rootR b part cnt.toNat p (path, false)).2.2 && decide ((rootR b part cnt.toNat p (path, false)).2.1.length = 0)) && decide ((rootR b part cnt.toNat p (path, false)).1.val = root.val))
instance (priority := 80) negN {P : Program} {a : Nat} {K : AV → Prop} : Stp (Do (aUn P .neg (.val (.int .i64 (-((a : Nat) : Int))))) K) (Need (a ≤ 9223372036854775807) (K (.val (.int .i64 ((a : Nat) : Int))))) := ⟨fun ⟨h, hK⟩ => by
  refine ⟨.val (.int .i64 (IntKind.wrap .i64 (- -((a : Nat) : Int)))), ⟨_, rfl, fun w => by simp [Op.unary, Op.intArith]⟩, ?_⟩
  rw [Int.neg_neg, wrap_i64 (by omega) (by omega)]
  exact hK⟩
abbrev OpT : TypeId := 133
abbrev opn4 (b : Int) (part : List (List UInt8)) (m : SM) (q : List D32) (c : Bool) : List AV := [I .i64 b, .lst 1 (part.map bl) m, .lst 32 (q.map dgF) .ro, B c]
instance (priority := 2000) litZ32 {offs : List (Nat × Nat)} {K : AV → Prop} : Stp (Do (aLit [.val (.int .u8 0), .val (.int .u8 0), .val (.int .u8 0), .val (.int .u8 0), .val (.int .u8 0), .val (.int .u8 0), .val (.int .u8 0), .val (.int .u8 0), .val (.int .u8 0), .val (.int .u8 0), .val (.int .u8 0), .val (.int .u8 0), .val (.int .u8 0), .val (.int .u8 0), .val (.int .u8 0), .val (.int .u8 0), .val (.int .u8 0), .val (.int .u8 0), .val (.int .u8 0), .val (.int .u8 0), .val (.int .u8 0), .val (.int .u8 0), .val (.int .u8 0), .val (.int .u8 0), .val (.int .u8 0), .val (.int .u8 0), .val (.int .u8 0), .val (.int .u8 0), .val (.int .u8 0), .val (.int .u8 0), .val (.int .u8 0), .val (.int .u8 0)] offs []) K) (K (dgA zeroD)) := ⟨fun hK => ⟨_, ⟨(fun p hp => by cases hp), [.val (.int .u8 0), .val (.int .u8 0), .val (.int .u8 0), .val (.int .u8 0), .val (.int .u8 0), .val (.int .u8 0), .val (.int .u8 0), .val (.int .u8 0), .val (.int .u8 0), .val (.int .u8 0), .val (.int .u8 0), .val (.int .u8 0), .val (.int .u8 0), .val (.int .u8 0), .val (.int .u8 0), .val (.int .u8 0), .val (.int .u8 0), .val (.int .u8 0), .val (.int .u8 0), .val (.int .u8 0), .val (.int .u8 0), .val (.int .u8 0), .val (.int .u8 0), .val (.int .u8 0), .val (.int .u8 0), .val (.int .u8 0), .val (.int .u8 0), .val (.int .u8 0), .val (.int .u8 0), .val (.int .u8 0), .val (.int .u8 0), .val (.int .u8 0)], rfl, rfl⟩, hK⟩⟩
def tree_opening_root.mark : Mark := ⟨fun t => false, fun t => false, fun t => false, fun t => Nat.beq t 39 || Nat.beq t 63, fun t => false⟩
def tree_opening_root.ann : Ann := ⟨fun n => [], fun n => none, fun n => bif Nat.beq n 12 then some [6] else none⟩
/-- '(*marlstone/tree.opening).root' -/
def tree_opening_root.sh (a0 a1 a2 : AV) (σ : Store) (Q : AEnd → Store → Prop) : Prop :=
  aNewVar 46 [.val (.int .u8 0), .val (.int .u8 0), .val (.int .u8 0), .val (.int .u8 0), .val (.int .u8 0), .val (.int .u8 0), .val (.int .u8 0), .val (.int .u8 0), .val (.int .u8 0), .val (.int .u8 0), .val (.int .u8 0), .val (.int .u8 0), .val (.int .u8 0), .val (.int .u8 0), .val (.int .u8 0), .val (.int .u8 0), .val (.int .u8 0), .val (.int .u8 0), .val (.int .u8 0), .val (.int .u8 0), .val (.int .u8 0), .val (.int .u8 0), .val (.int .u8 0), .val (.int .u8 0), .val (.int .u8 0), .val (.int .u8 0), .val (.int .u8 0), .val (.int .u8 0), .val (.int .u8 0), .val (.int .u8 0), .val (.int .u8 0), .val (.int .u8 0)] σ fun t6 σ =>
  Do (aNil a0) fun t13 =>
  Do (aFieldAddr 1 1 t13) fun t14 =>
  Do (loadA false 1 t14 σ) fun t15 =>
  Do (aBuiltin Go.Proofs.Try.prog .len #[37] [t15]) fun t16 =>
  Do (aBin Go.Proofs.Try.prog .add 3 a2 t16) fun t17 =>
  Do (aBin Go.Proofs.Try.prog .leq 3 t17 (.val (.int .i64 0))) fun t18 =>
  Do (aGuard t18 false (aIs a2)) fun t20 =>
  Do (aGuard t18 false (aIs a1)) fun t21 =>
  Do (aGuard t18 false (aBin Go.Proofs.Try.prog .geq 3 t20 t21)) fun t22 =>
  Do (aPick t18 (.val (.bool true)) t22) fun t23 =>
  aCond t23
    (Do (aNil a0) fun t25 =>
    Do (aFieldAddr 2 1 t25) fun t26 =>
    Do (loadA false 1 t26 σ) fun t27 =>
    Do (aBuiltin Go.Proofs.Try.prog .len #[28] [t27]) fun t28 =>
    Do (aBin Go.Proofs.Try.prog .eql 3 t28 (.val (.int .i64 0))) fun t29 =>
    aCond t29
      (Do (aNil a0) fun t31 =>
      Do (aFieldAddr 3 1 t31) fun t32 =>
      storeA 1 t32 (.val (.bool true)) σ fun u σ_1 =>
      Do (aLit [.val (.int .u8 0), .val (.int .u8 0), .val (.int .u8 0), .val (.int .u8 0), .val (.int .u8 0), .val (.int .u8 0), .val (.int .u8 0), .val (.int .u8 0), .val (.int .u8 0), .val (.int .u8 0), .val (.int .u8 0), .val (.int .u8 0), .val (.int .u8 0), .val (.int .u8 0), .val (.int .u8 0), .val (.int .u8 0), .val (.int .u8 0), .val (.int .u8 0), .val (.int .u8 0), .val (.int .u8 0), .val (.int .u8 0), .val (.int .u8 0), .val (.int .u8 0), .val (.int .u8 0), .val (.int .u8 0), .val (.int .u8 0), .val (.int .u8 0), .val (.int .u8 0), .val (.int .u8 0), .val (.int .u8 0), .val (.int .u8 0), .val (.int .u8 0)] [(0, 1), (1, 1), (2, 1), (3, 1), (4, 1), (5, 1), (6, 1), (7, 1), (8, 1), (9, 1), (10, 1), (11, 1), (12, 1), (13, 1), (14, 1), (15, 1), (16, 1), (17, 1), (18, 1), (19, 1), (20, 1), (21, 1), (22, 1), (23, 1), (24, 1), (25, 1), (26, 1), (27, 1), (28, 1), (29, 1), (30, 1), (31, 1)] []) fun t33 =>
      storeA 32 t6 t33 σ_1 fun u_1 σ_2 =>
      Do (loadA true 32 t6 σ_2) fun r6 => Q (.ret r6) σ_2)
      (Do (aNil a0) fun t35 =>
    Do (aFieldAddr 2 1 t35) fun t36 =>
    Do (loadA false 1 t36 σ) fun t37 =>
    Do (aIndexAddr .slice 32 t37 (.val (.int .i64 0))) fun t38 =>
    Do (loadF true 32 t38) fun t39 =>
    aNewVar 46 [.val (.int .u8 0), .val (.int .u8 0), .val (.int .u8 0), .val (.int .u8 0), .val (.int .u8 0), .val (.int .u8 0), .val (.int .u8 0), .val (.int .u8 0), .val (.int .u8 0), .val (.int .u8 0), .val (.int .u8 0), .val (.int .u8 0), .val (.int .u8 0), .val (.int .u8 0), .val (.int .u8 0), .val (.int .u8 0), .val (.int .u8 0), .val (.int .u8 0), .val (.int .u8 0), .val (.int .u8 0), .val (.int .u8 0), .val (.int .u8 0), .val (.int .u8 0), .val (.int .u8 0), .val (.int .u8 0), .val (.int .u8 0), .val (.int .u8 0), .val (.int .u8 0), .val (.int .u8 0), .val (.int .u8 0), .val (.int .u8 0), .val (.int .u8 0)] σ fun t7 σ_3 =>
    storeA 32 t7 t39 σ_3 fun u_2 σ_4 =>
    Do (aNil a0) fun t42 =>
    Do (aFieldAddr 2 1 t42) fun t43 =>
    Do (loadA false 1 t43 σ_4) fun t44 =>
    Do (aSlice .slice 32 t44 (some (.val (.int .i64 1))) none none) fun t45 =>
    Do (aNil a0) fun t46 =>
    Do (aFieldAddr 2 1 t46) fun t47 =>
    storeA 1 t47 t45 σ_4 fun u_3 σ_5 =>
    Do (loadA true 32 t7 σ_5) fun t48 =>
    storeA 32 t6 t48 σ_5 fun u_4 σ_6 =>
    Do (loadA true 32 t6 σ_6) fun r6_1 => Q (.ret r6_1) σ_6))
    (Do (aBin Go.Proofs.Try.prog .eql 3 a1 (.val (.int .i64 1))) fun t51 =>
    aCond t51
      (Do (aNil a0) fun t53 =>
      Do (aFieldAddr 0 1 t53) fun t54 =>
      Do (loadA true 1 t54 σ) fun t55 =>
      Do (aNil a0) fun t57 =>
      Do (aFieldAddr 1 1 t57) fun t58 =>
      Do (aUn Go.Proofs.Try.prog .neg a2) fun t61 =>
      Do (loadA false 1 t58 σ) fun t59 =>
      Do (aIndexAddr .slice 1 t59 t61) fun t62 =>
      Do (loadF false 1 t62) fun t63 =>
      aCall Go.Proofs.Try.prog 66 [t55, t63] σ (fun t64 σ_7 =>
      storeA 32 t6 t64 σ_7 fun u_5 σ_8 =>
      Do (loadA true 32 t6 σ_8) fun r6_2 => Q (.ret r6_2) σ_8) (fun e σ_9 => Q (.pan e) σ_9))
      (aCall Go.Proofs.Try.prog 100 [a1] σ (fun t66 σ_10 =>
  aCall Go.Proofs.Try.prog 95 [a0, t66, a2] σ_10 (fun t70 σ_11 =>
  aNewVar 46 [.val (.int .u8 0), .val (.int .u8 0), .val (.int .u8 0), .val (.int .u8 0), .val (.int .u8 0), .val (.int .u8 0), .val (.int .u8 0), .val (.int .u8 0), .val (.int .u8 0), .val (.int .u8 0), .val (.int .u8 0), .val (.int .u8 0), .val (.int .u8 0), .val (.int .u8 0), .val (.int .u8 0), .val (.int .u8 0), .val (.int .u8 0), .val (.int .u8 0), .val (.int .u8 0), .val (.int .u8 0), .val (.int .u8 0), .val (.int .u8 0), .val (.int .u8 0), .val (.int .u8 0), .val (.int .u8 0), .val (.int .u8 0), .val (.int .u8 0), .val (.int .u8 0), .val (.int .u8 0), .val (.int .u8 0), .val (.int .u8 0), .val (.int .u8 0)] σ_11 fun t9 σ_12 =>
  storeA 32 t9 t70 σ_12 fun u_6 σ_13 =>
  aJoin (fun j =>
    Do (aNil a0) fun t72 =>
    Do (aFieldAddr 0 1 t72) fun t73 =>
    Do (aBin Go.Proofs.Try.prog .sub 3 a1 t66) fun t79 =>
    Do (aBin Go.Proofs.Try.prog .sub 3 a2 t66) fun t82 =>
    Both (Do (loadA true 1 t73 σ_13) fun t74 =>
    Both (Do (loadA true 32 t9 σ_13) fun t75 =>
    aCall Go.Proofs.Try.prog 95 [a0, t79, t82] σ_13 (fun t83 σ_15 =>
    aCall Go.Proofs.Try.prog 71 [t74, t75, t83] σ_15 (fun t84 σ_16 =>
    storeA 32 t6 t84 σ_16 fun u_7 σ_17 =>
    j [t6] σ_17) (fun e_1 σ_18 => Q (.pan e_1) σ_18)) (fun e_2 σ_19 => Q (.pan e_2) σ_19)) (aCall Go.Proofs.Try.prog 95 [a0, t79, t82] σ_13 (fun t83_1 σ_20 =>
    Do (loadA true 32 t9 σ_20) fun t75_1 =>
    aCall Go.Proofs.Try.prog 71 [t74, t75_1, t83_1] σ_20 (fun t84_1 σ_21 =>
    storeA 32 t6 t84_1 σ_21 fun u_8 σ_22 =>
    j [t6] σ_22) (fun e_3 σ_23 => Q (.pan e_3) σ_23)) (fun e_4 σ_24 => Q (.pan e_4) σ_24))) (Both (Do (loadA true 32 t9 σ_13) fun t75_2 =>
    Both (Do (loadA true 1 t73 σ_13) fun t74_1 =>
    aCall Go.Proofs.Try.prog 95 [a0, t79, t82] σ_13 (fun t83_2 σ_25 =>
    aCall Go.Proofs.Try.prog 71 [t74_1, t75_2, t83_2] σ_25 (fun t84_2 σ_26 =>
    storeA 32 t6 t84_2 σ_26 fun u_9 σ_27 =>
    j [t6] σ_27) (fun e_5 σ_28 => Q (.pan e_5) σ_28)) (fun e_6 σ_29 => Q (.pan e_6) σ_29)) (aCall Go.Proofs.Try.prog 95 [a0, t79, t82] σ_13 (fun t83_3 σ_30 =>
    Do (loadA true 1 t73 σ_30) fun t74_2 =>
    aCall Go.Proofs.Try.prog 71 [t74_2, t75_2, t83_3] σ_30 (fun t84_3 σ_31 =>
    storeA 32 t6 t84_3 σ_31 fun u_10 σ_32 =>
    j [t6] σ_32) (fun e_7 σ_33 => Q (.pan e_7) σ_33)) (fun e_8 σ_34 => Q (.pan e_8) σ_34))) (aCall Go.Proofs.Try.prog 95 [a0, t79, t82] σ_13 (fun t83_4 σ_35 =>
    Do (loadA true 1 t73 σ_35) fun t74_3 =>
    Do (loadA true 32 t9 σ_35) fun t75_3 =>
    aCall Go.Proofs.Try.prog 71 [t74_3, t75_3, t83_4] σ_35 (fun t84_4 σ_36 =>
    storeA 32 t6 t84_4 σ_36 fun u_11 σ_37 =>
    j [t6] σ_37) (fun e_9 σ_38 => Q (.pan e_9) σ_38)) (fun e_10 σ_39 => Q (.pan e_10) σ_39)))) fun vs σ_14 =>
  At vs 0 fun s6 => Do (loadA true 32 s6 σ_14) fun r6_3 => Q (.ret r6_3) σ_14) (fun e_11 σ_40 => Q (.pan e_11) σ_40)) (fun e_12 σ_41 => Q (.pan e_12) σ_41)))
theorem tree_opening_root.eq (a0 a1 a2 : AV) (σ : Store) (Q : AEnd → Store → Prop) : vc (semOf Go.Proofs.Try.prog tree_opening_root.mark) Go.Proofs.Try.f95.ntmps tree_opening_root.ann (bodyOf Go.Proofs.Try.f95) (endK [.cell 6 true 32] Q) (argFr [a0, a1, a2]) σ = tree_opening_root.sh a0 a1 a2 σ Q := by kernel_rfl
theorem tree_opening_root.go {a0 a1 a2 : AV} {σ : Store} {Q : AEnd → Store → Prop} (h : tree_opening_root.sh a0 a1 a2 σ Q) : ACalls Go.Proofs.Try.prog 95 [a0, a1, a2] σ Q :=
  acalls_of_eq [.cell 6 true 32] Go.Proofs.Try.func95 (by kernel_rfl) (by kernel_rfl) (by kernel_rfl) (by kernel_rfl) (tree_opening_root.eq a0 a1 a2 σ Q) h
def tree_Tree_CheckRange.mark : Mark := ⟨fun t => false, fun t => false, fun t => Nat.beq t 6 || Nat.beq t 7, fun t => Nat.beq t 36 || Nat.beq t 60, fun t => false⟩
def tree_Tree_CheckRange.ann : Ann := ⟨fun n => [], fun n => none, fun n => none⟩
/-- '(marlstone/tree.Tree).CheckRange' -/
def tree_Tree_CheckRange.sh (a0 a1 a2 a3 a4 a5 : AV) (σ : Store) (Q : AEnd → Store → Prop) : Prop :=
  Do (aFreeze ((a0 : AV)).cells) fun t6 =>
  Do (aFreeze ((a1 : AV)).cells) fun t7 =>
  Do (aBuiltin Go.Proofs.Try.prog .len #[37] [a4]) fun t16 =>
  Do (aBin Go.Proofs.Try.prog .eql 3 t16 (.val (.int .i64 0))) fun t17 =>
  Do (aGuard t17 false (aIs a3)) fun t19 =>
  Do (aGuard t17 false (aBin Go.Proofs.Try.prog .lss 3 t19 (.val (.int .i64 0)))) fun t20 =>
  Do (aPick t17 (.val (.bool true)) t20) fun t21 =>
  Do (aGuard t21 false (aIs a2)) fun t23 =>
  Do (aGuard t21 false (aIs a4)) fun t24 =>
  Do (aGuard t21 false (aBuiltin Go.Proofs.Try.prog .len #[37] [t24])) fun t25 =>
  Do (aGuard t21 false (aBin Go.Proofs.Try.prog .lss 3 t23 t25)) fun t26 =>
  Do (aPick t21 (.val (.bool true)) t26) fun t27 =>
  Do (aGuard t27 false (aIs a3)) fun t29 =>
  Do (aGuard t27 false (aIs a2)) fun t30 =>
  Do (aGuard t27 false (aIs a4)) fun t31 =>
  Do (aGuard t27 false (aBuiltin Go.Proofs.Try.prog .len #[37] [t31])) fun t32 =>
  Do (aGuard t27 false (aBin Go.Proofs.Try.prog .sub 3 t30 t32)) fun t33 =>
  Do (aGuard t27 false (aBin Go.Proofs.Try.prog .gtr 3 t29 t33)) fun t34 =>
  Do (aPick t27 (.val (.bool true)) t34) fun t35 =>
  aCond t35
    (Q (.ret (.val (.bool false))) σ)
    (Do (loadF true 1 t6) fun t36 =>
  Do (aLit [.val (.int .i64 0), .val (.slice none 0 0), .val (.slice none 0 0), .val (.bool false)] [(0, 1), (1, 1), (2, 1), (3, 1)] [(0, t36), (1, a4), (2, a5)]) fun t39 =>
  aNewVar 133 (t39 : AV).cells σ fun t40 σ =>
  aCall Go.Proofs.Try.prog 95 [t40, a2, a3] σ (fun t44 σ_1 =>
  aNewVar 46 [.val (.int .u8 0), .val (.int .u8 0), .val (.int .u8 0), .val (.int .u8 0), .val (.int .u8 0), .val (.int .u8 0), .val (.int .u8 0), .val (.int .u8 0), .val (.int .u8 0), .val (.int .u8 0), .val (.int .u8 0), .val (.int .u8 0), .val (.int .u8 0), .val (.int .u8 0), .val (.int .u8 0), .val (.int .u8 0), .val (.int .u8 0), .val (.int .u8 0), .val (.int .u8 0), .val (.int .u8 0), .val (.int .u8 0), .val (.int .u8 0), .val (.int .u8 0), .val (.int .u8 0), .val (.int .u8 0), .val (.int .u8 0), .val (.int .u8 0), .val (.int .u8 0), .val (.int .u8 0), .val (.int .u8 0), .val (.int .u8 0), .val (.int .u8 0)] σ_1 fun t14 σ_2 =>
  storeA 32 t14 t44 σ_2 fun u σ_3 =>
  Do (aNil t40) fun t46 =>
  Do (aFieldAddr 3 1 t46) fun t47 =>
  Do (loadA false 1 t47 σ_3) fun t48 =>
  Do (aUn Go.Proofs.Try.prog .not t48) fun t49 =>
  Do (aGuard t49 true (aIs t40)) fun t51 =>
  Do (aGuard t49 true (aNil t51)) fun t52 =>
  Do (aGuard t49 true (aFieldAddr 2 1 t52)) fun t53 =>
  Do (aGuard t49 true (loadA false 1 t53 σ_3)) fun t54 =>
  Do (aGuard t49 true (aBuiltin Go.Proofs.Try.prog .len #[28] [t54])) fun t55 =>
  Do (aGuard t49 true (aBin Go.Proofs.Try.prog .eql 3 t55 (.val (.int .i64 0)))) fun t56 =>
  Do (aPick t49 t56 (.val (.bool false))) fun t57 =>
  Do (aGuard t57 true (loadA true 32 t14 σ_3)) fun t59 =>
  Do (aGuard t57 true (loadF true 32 t7)) fun t60 =>
  Do (aGuard t57 true (aBin Go.Proofs.Try.prog .eql 46 t59 t60)) fun t61 =>
  Do (aPick t57 t61 (.val (.bool false))) fun t62 =>
  Q (.ret t62) σ_3) (fun e σ_4 => Q (.pan e) σ_4))
theorem tree_Tree_CheckRange.eq (a0 a1 a2 a3 a4 a5 : AV) (σ : Store) (Q : AEnd → Store → Prop) : vc (semOf Go.Proofs.Try.prog tree_Tree_CheckRange.mark) Go.Proofs.Try.f54.ntmps tree_Tree_CheckRange.ann (bodyOf Go.Proofs.Try.f54) (endK [.tmp 12] Q) (argFr [a0, a1, a2, a3, a4, a5]) σ = tree_Tree_CheckRange.sh a0 a1 a2 a3 a4 a5 σ Q := by kernel_rfl
theorem tree_Tree_CheckRange.go {a0 a1 a2 a3 a4 a5 : AV} {σ : Store} {Q : AEnd → Store → Prop} (h : tree_Tree_CheckRange.sh a0 a1 a2 a3 a4 a5 σ Q) : ACalls Go.Proofs.Try.prog 54 [a0, a1, a2, a3, a4, a5] σ Q :=
  acalls_of_eq [.tmp 12] Go.Proofs.Try.func54 (by kernel_rfl) (by kernel_rfl) (by kernel_rfl) (by kernel_rfl) (tree_Tree_CheckRange.eq a0 a1 a2 a3 a4 a5 σ Q) h
theorem oroot_ok (b : Int) (o : Nat) (part : List (List UInt8)) (m : SM) (hpl : part.length ≤ 1000000000) (hpb : ∀ b ∈ part, b.length ≤ 100000000000000) : ∀ (n cnt : Nat) (p : Int) (s : List D32 × Bool), cnt = n → 0 < cnt → cnt ≤ 9223372036854775807 → -9000000000000000000 ≤ p → p ≤ 9223372036854775807 - part.length →
    ACalls Go.Proofs.Try.prog 95 [ptrAt o 0, I .i64 (cnt : Nat), I .i64 p] [.var o OpT (opn4 b part m s.1 s.2)] fun x σ' => x = .ret (dgA (rootR b part cnt p s).1.val) ∧ σ' = [.var o OpT (opn4 b part m (rootR b part cnt p s).2.1 (rootR b part cnt p s).2.2)] := by
  intro n
  induction n using Nat.strongRecOn with
  | _ n ih =>
    intro cnt p s hn h0 h1 h2 h3
    refine ACalls.fin (tree_opening_root.go ?_)
    unfold tree_opening_root.sh
    have inst : ∀ (cnt' : Nat) (p' : Int) (q : List D32) (c : Bool) (σ rest : Store) (put : Ent → Store) [hv : VarAt o σ OpT (opn4 b part m q c) put rest], EC Go.Proofs.Try.prog 95 [ptrAt o 0, I .i64 (cnt' : Nat), I .i64 p'] σ (cnt' < n ∧ 0 < cnt' ∧ cnt' ≤ 9223372036854775807 ∧ -9000000000000000000 ≤ p' ∧ p' ≤ 9223372036854775807 - part.length) Unit (fun _ => dgA (rootR b part cnt' p' (q, c)).1.val) (fun _ => put (.var o OpT (opn4 b part m (rootR b part cnt' p' (q, c)).2.1 (rootR b part cnt' p' (q, c)).2.2))) := fun cnt' p' q c σ rest put hv => ⟨fun h => (ACalls.at_ (ih cnt' h.1 cnt' p' (q, c) rfl h.2.1 h.2.2.1 h.2.2.2.1 h.2.2.2.2)).mono fun x σ' ⟨g1, g2⟩ => ⟨(), g1, g2⟩⟩
    by_cases h4 : p + part.length ≤ 0 ∨ (cnt : Int) ≤ p
    · have e : rootR b part cnt p s = popD s := by unfold rootR; rw [if_pos h4]
      rw [e]
      obtain ⟨path, c⟩ := s
      dsimp only
      cases path with
      | nil =>
        have hz0 : ([] : List D32).length = 0 := rfl
        by_cases h5 : p + part.length ≤ 0
        · repeat' (first | with_reducible apply Stp.go | with_reducible refine imp fun _ => ?_ | (with_reducible refine hyp ?_ ?_; first | assumption | exact leftT_mem (by assumption)) | (with_reducible refine need ?_ ?_; first | trivial | omega | exact ⟨by assumption, by omega⟩ | (simp only [List.length_append, List.length_cons, List.length_nil, List.length_map, List.length_take, List.length_drop, List.length_replicate, List.length_set]; omega)) | (with_reducible refine fact ?_ ?_; first | trivial | exact ⟨rfl, rfl⟩ | kernel_rfl) | with_reducible refine choT (by assumption) ?_ | with_reducible refine choF (by assumption) ?_ | with_reducible refine choF' (by assumption) ?_ | (with_reducible refine altT ?_ ?_; first | omega | (simp only [List.length_append, List.length_cons, List.length_nil, List.length_map, List.length_take, List.length_drop, List.length_replicate, List.length_set]; omega)) | with_reducible refine altF ?_ | with_reducible refine all fun _ => ?_ | with_reducible refine both ?_ ?_ | (with_reducible refine choT ?_ ?_; omega) | (with_reducible refine choF ?_ ?_; omega) | with_reducible refine cho (fun _ => ?_) (fun _ => ?_))
          exact ⟨_, _, _, rfl, Sub.drop_ (List.sublist_cons_self _ _) _, rfl, rfl⟩
        · have h6 : (cnt : Int) ≤ p := by omega
          repeat' (first | with_reducible apply Stp.go | with_reducible refine imp fun _ => ?_ | (with_reducible refine hyp ?_ ?_; first | assumption | exact leftT_mem (by assumption)) | (with_reducible refine need ?_ ?_; first | trivial | omega | exact ⟨by assumption, by omega⟩ | (simp only [List.length_append, List.length_cons, List.length_nil, List.length_map, List.length_take, List.length_drop, List.length_replicate, List.length_set]; omega)) | (with_reducible refine fact ?_ ?_; first | trivial | exact ⟨rfl, rfl⟩ | kernel_rfl) | with_reducible refine choT (by assumption) ?_ | with_reducible refine choF (by assumption) ?_ | with_reducible refine choF' (by assumption) ?_ | (with_reducible refine altT ?_ ?_; first | omega | (simp only [List.length_append, List.length_cons, List.length_nil, List.length_map, List.length_take, List.length_drop, List.length_replicate, List.length_set]; omega)) | with_reducible refine altF ?_ | with_reducible refine all fun _ => ?_ | with_reducible refine both ?_ ?_ | (with_reducible refine choT ?_ ?_; omega) | (with_reducible refine choF ?_ ?_; omega) | with_reducible refine cho (fun _ => ?_) (fun _ => ?_))
          exact ⟨_, _, _, rfl, Sub.drop_ (List.sublist_cons_self _ _) _, rfl, rfl⟩
      | cons x xs =>
        have hz0 : ¬ (x :: xs).length = 0 := by simp
        have hx32 : ((x :: xs).getD 0 default).val.length = 32 := x.len
        have hr32 : (List.replicate 32 (0 : UInt8)).length = 32 := by simp
        by_cases h5 : p + part.length ≤ 0
        · repeat' (first | with_reducible apply Stp.go | with_reducible refine imp fun _ => ?_ | (with_reducible refine hyp ?_ ?_; first | assumption | exact leftT_mem (by assumption)) | (with_reducible refine need ?_ ?_; first | trivial | omega | exact ⟨by assumption, by omega⟩ | (simp only [List.length_append, List.length_cons, List.length_nil, List.length_map, List.length_take, List.length_drop, List.length_replicate, List.length_set]; omega)) | (with_reducible refine fact ?_ ?_; first | trivial | exact ⟨rfl, rfl⟩ | kernel_rfl) | with_reducible refine choT (by assumption) ?_ | with_reducible refine choF (by assumption) ?_ | with_reducible refine choF' (by assumption) ?_ | (with_reducible refine altT ?_ ?_; first | omega | (simp only [List.length_append, List.length_cons, List.length_nil, List.length_map, List.length_take, List.length_drop, List.length_replicate, List.length_set]; omega)) | with_reducible refine altF ?_ | with_reducible refine all fun _ => ?_ | with_reducible refine both ?_ ?_ | (with_reducible refine choT ?_ ?_; omega) | (with_reducible refine choF ?_ ?_; omega) | with_reducible refine cho (fun _ => ?_) (fun _ => ?_))
          exact ⟨_, _, _, rfl, Sub.drop_ (.cons _ (.cons _ (.cons_cons _ .slnil))) _, rfl, rfl⟩
        · have h6 : (cnt : Int) ≤ p := by omega
          repeat' (first | with_reducible apply Stp.go | with_reducible refine imp fun _ => ?_ | (with_reducible refine hyp ?_ ?_; first | assumption | exact leftT_mem (by assumption)) | (with_reducible refine need ?_ ?_; first | trivial | omega | exact ⟨by assumption, by omega⟩ | (simp only [List.length_append, List.length_cons, List.length_nil, List.length_map, List.length_take, List.length_drop, List.length_replicate, List.length_set]; omega)) | (with_reducible refine fact ?_ ?_; first | trivial | exact ⟨rfl, rfl⟩ | kernel_rfl) | with_reducible refine choT (by assumption) ?_ | with_reducible refine choF (by assumption) ?_ | with_reducible refine choF' (by assumption) ?_ | (with_reducible refine altT ?_ ?_; first | omega | (simp only [List.length_append, List.length_cons, List.length_nil, List.length_map, List.length_take, List.length_drop, List.length_replicate, List.length_set]; omega)) | with_reducible refine altF ?_ | with_reducible refine all fun _ => ?_ | with_reducible refine both ?_ ?_ | (with_reducible refine choT ?_ ?_; omega) | (with_reducible refine choF ?_ ?_; omega) | with_reducible refine cho (fun _ => ?_) (fun _ => ?_))
          exact ⟨_, _, _, rfl, Sub.drop_ (.cons _ (.cons _ (.cons_cons _ .slnil))) _, rfl, rfl⟩
    · have h5 : ¬ p + part.length ≤ 0 := by omega
      have h6 : ¬ (cnt : Int) ≤ p := by omega
      by_cases h7 : cnt = 1
      · obtain ⟨j, rfl⟩ : ∃ j : Nat, p = -(j : Int) := ⟨(-p).toNat, by omega⟩
        have e : rootR b part cnt (-(j : Int)) s = (⟨leafD b (part.getD j default), Len32.len⟩, s) := by
          rw [rootR_one h4 (by omega)]
          simp only [Int.neg_neg, Int.toNat_natCast]
        rw [e]
        have h8 : j < part.length := by omega
        have hb0 : (part.getD j default).length ≤ 100000000000000 := hpb _ (by rw [List.getD_eq_getElem?_getD, List.getElem?_eq_getElem h8]; exact List.getElem_mem _)
        have hr32 : (List.replicate 32 (0 : UInt8)).length = 32 := by simp
        have n0 : (leafD b (part.getD j default)).length = 32 := Len32.len
        repeat' (first | with_reducible apply Stp.go | with_reducible refine imp fun _ => ?_ | (with_reducible refine hyp ?_ ?_; first | assumption | exact leftT_mem (by assumption)) | (with_reducible refine need ?_ ?_; first | trivial | omega | exact ⟨by assumption, by omega⟩ | (simp only [List.length_append, List.length_cons, List.length_nil, List.length_map, List.length_take, List.length_drop, List.length_replicate, List.length_set]; omega)) | (with_reducible refine fact ?_ ?_; first | trivial | exact ⟨rfl, rfl⟩ | kernel_rfl) | with_reducible refine choT (by assumption) ?_ | with_reducible refine choF (by assumption) ?_ | with_reducible refine choF' (by assumption) ?_ | (with_reducible refine altT ?_ ?_; first | omega | (simp only [List.length_append, List.length_cons, List.length_nil, List.length_map, List.length_take, List.length_drop, List.length_replicate, List.length_set]; omega)) | with_reducible refine altF ?_ | with_reducible refine all fun _ => ?_ | with_reducible refine both ?_ ?_ | (with_reducible refine choT ?_ ?_; omega) | (with_reducible refine choF ?_ ?_; omega) | with_reducible refine cho (fun _ => ?_) (fun _ => ?_))
        exact ⟨_, _, _, rfl, Sub.drop_ (List.sublist_cons_self _ _) _, rfl, rfl⟩
      · have hh := halfN_lt (n := cnt) (by omega)
        have hk := halfN_log (n := cnt) (m := 62) (by omega) (by omega)
        obtain ⟨q, c⟩ := s
        dsimp only
        have e := rootR_two (b := b) (part := part) (s := (q, c)) h4 (show ¬ cnt ≤ 1 by omega)
        obtain ⟨d1, q1, c1, hX⟩ : ∃ d1 q1 c1, rootR b part (halfN cnt) p (q, c) = (d1, q1, c1) := ⟨_, _, _, rfl⟩
        obtain ⟨d2, q2, c2, hY⟩ : ∃ d2 q2 c2, rootR b part (cnt - halfN cnt) (p - halfN cnt) (q1, c1) = (d2, q2, c2) := ⟨_, _, _, rfl⟩
        rw [hX] at e
        dsimp only at e
        rw [hY] at e
        dsimp only at e
        rw [e]
        dsimp only
        have i1 : ∀ (σ rest : Store) (put : Ent → Store) [hv : VarAt o σ OpT (opn4 b part m q c) put rest], EC Go.Proofs.Try.prog 95 [ptrAt o 0, I .i64 (halfN cnt : Nat), I .i64 p] σ True Unit (fun _ => dgA d1.val) (fun _ => put (.var o OpT (opn4 b part m q1 c1))) := fun σ rest put hv => ⟨fun _ => by
          have := (inst (halfN cnt) p q c σ rest put).ct ⟨by omega, by omega, by omega, h2, h3⟩
          rw [hX] at this
          exact this⟩
        have i2 : ∀ (σ rest : Store) (put : Ent → Store) [hv : VarAt o σ OpT (opn4 b part m q1 c1) put rest], EC Go.Proofs.Try.prog 95 [ptrAt o 0, I .i64 (cnt - halfN cnt : Nat), I .i64 (p - (halfN cnt : Nat))] σ True Unit (fun _ => dgA d2.val) (fun _ => put (.var o OpT (opn4 b part m q2 c2))) := fun σ rest put hv => ⟨fun _ => by
          have := (inst (cnt - halfN cnt) (p - (halfN cnt : Nat)) q1 c1 σ rest put).ct ⟨by omega, by omega, by omega, by omega, by omega⟩
          rw [hY] at this
          exact this⟩
        clear inst
        have n1 := d1.len
        have n2 := d2.len
        have hr32 : (List.replicate 32 (0 : UInt8)).length = 32 := by simp
        have n3 : (nodeD b d1.val d2.val).length = 32 := Len32.len
        repeat' (first | with_reducible apply Stp.go | with_reducible refine imp fun _ => ?_ | (with_reducible refine hyp ?_ ?_; first | assumption | exact leftT_mem (by assumption)) | (with_reducible refine need ?_ ?_; first | trivial | omega | exact ⟨by assumption, by omega⟩ | (simp only [List.length_append, List.length_cons, List.length_nil, List.length_map, List.length_take, List.length_drop, List.length_replicate, List.length_set]; omega)) | (with_reducible refine fact ?_ ?_; first | trivial | exact ⟨rfl, rfl⟩ | kernel_rfl) | with_reducible refine choT (by assumption) ?_ | with_reducible refine choF (by assumption) ?_ | with_reducible refine choF' (by assumption) ?_ | (with_reducible refine altT ?_ ?_; first | omega | (simp only [List.length_append, List.length_cons, List.length_nil, List.length_map, List.length_take, List.length_drop, List.length_replicate, List.length_set]; omega)) | with_reducible refine altF ?_ | with_reducible refine all fun _ => ?_ | with_reducible refine both ?_ ?_ | (with_reducible refine choT ?_ ?_; omega) | (with_reducible refine choF ?_ ?_; omega) | with_reducible refine cho (fun _ => ?_) (fun _ => ?_))
        rename_i t6 _ t9
        refine joinI (β := Unit) (fun _ => True) (fun _ => [ptrAt t6 0]) (fun _ => [.var t6 DgT ((nodeD b d1.val d2.val).map byt), .var o OpT (opn4 b part m q2 c2)]) ?_ ?_
        · repeat' (first | with_reducible apply Stp.go | with_reducible refine imp fun _ => ?_ | (with_reducible refine hyp ?_ ?_; first | assumption | exact leftT_mem (by assumption)) | (with_reducible refine need ?_ ?_; first | trivial | omega | exact ⟨by assumption, by omega⟩ | (simp only [List.length_append, List.length_cons, List.length_nil, List.length_map, List.length_take, List.length_drop, List.length_replicate, List.length_set]; omega)) | (with_reducible refine fact ?_ ?_; first | trivial | exact ⟨rfl, rfl⟩ | kernel_rfl) | with_reducible refine choT (by assumption) ?_ | with_reducible refine choF (by assumption) ?_ | with_reducible refine choF' (by assumption) ?_ | (with_reducible refine altT ?_ ?_; first | omega | (simp only [List.length_append, List.length_cons, List.length_nil, List.length_map, List.length_take, List.length_drop, List.length_replicate, List.length_set]; omega)) | with_reducible refine altF ?_ | with_reducible refine all fun _ => ?_ | with_reducible refine both ?_ ?_ | (with_reducible refine choT ?_ ?_; omega) | (with_reducible refine choF ?_ ?_; omega) | with_reducible refine cho (fun _ => ?_) (fun _ => ?_))
          all_goals exact meet () trivial (Sub.drop_ (List.sublist_cons_self _ _) _)
        · rintro ⟨⟩ _
          repeat' (first | with_reducible apply Stp.go | with_reducible refine imp fun _ => ?_ | (with_reducible refine hyp ?_ ?_; first | assumption | exact leftT_mem (by assumption)) | (with_reducible refine need ?_ ?_; first | trivial | omega | exact ⟨by assumption, by omega⟩ | (simp only [List.length_append, List.length_cons, List.length_nil, List.length_map, List.length_take, List.length_drop, List.length_replicate, List.length_set]; omega)) | (with_reducible refine fact ?_ ?_; first | trivial | exact ⟨rfl, rfl⟩ | kernel_rfl) | with_reducible refine choT (by assumption) ?_ | with_reducible refine choF (by assumption) ?_ | with_reducible refine choF' (by assumption) ?_ | (with_reducible refine altT ?_ ?_; first | omega | (simp only [List.length_append, List.length_cons, List.length_nil, List.length_map, List.length_take, List.length_drop, List.length_replicate, List.length_set]; omega)) | with_reducible refine altF ?_ | with_reducible refine all fun _ => ?_ | with_reducible refine both ?_ ?_ | (with_reducible refine choT ?_ ?_; omega) | (with_reducible refine choF ?_ ?_; omega) | with_reducible refine cho (fun _ => ?_) (fun _ => ?_))
          exact ⟨_, _, _, rfl, Sub.drop_ (List.sublist_cons_self _ _) _, rfl, rfl⟩
theorem CheckRange_ok (b : Int) (root : List UInt8) [hr : Len32 root] (cnt p : Int) (part : List (List UInt8)) (m : SM) (path : List D32) (hc : cnt ≤ 9223372036854775807) (hl : part.length ≤ 1000000000) (hpb : ∀ b ∈ part, b.length ≤ 100000000000000) :
    aPure Go.Proofs.Try.prog 54 [trA b, dgA root, I .i64 cnt, I .i64 p,   .lst 1 (part.map bl) m, .lst 32 (path.map dgF) .ro] (B (checkR b ⟨root, hr.len⟩ cnt p part path)) := by
  refine ACalls.fin (tree_Tree_CheckRange.go ?_)
  unfold tree_Tree_CheckRange.sh
  by_cases h : 0 < part.length ∧ 0 ≤ p ∧ (part.length : Int) ≤ cnt ∧ p ≤ cnt - part.length
  · obtain ⟨n, rfl⟩ := Int.eq_ofNat_of_zero_le (show 0 ≤ cnt by omega)
    have e : checkR b ⟨root, hr.len⟩ n p part path = ((!(rootR b part n p (path, false)).2.2 && decide ((rootR b part n p (path, false)).2.1.length = 0)) && decide ((rootR b part n p (path, false)).1.val = root)) := by
      rw [checkR, decide_eq_true h, Bool.true_and, Int.toNat_natCast]
    rw [e]
    have inst : ∀ (o : Nat) (q : List D32) (c : Bool) (σ rest : Store) (put : Ent → Store) [hv : VarAt o σ OpT (opn4 b part m q c) put rest], EC Go.Proofs.Try.prog 95 [ptrAt o 0, I .i64 (n : Nat), I .i64 p] σ True Unit (fun _ => dgA (rootR b part n p (q, c)).1.val) (fun _ => put (.var o OpT (opn4 b part m (rootR b part n p (q, c)).2.1 (rootR b part n p (q, c)).2.2))) := fun o q c σ rest put hv => ⟨fun _ => (ACalls.at_ (oroot_ok b o part m hl hpb n n p (q, c) rfl (by omega) (by omega) (by omega) (by omega))).mono fun x σ' ⟨g1, g2⟩ => ⟨(), g1, g2⟩⟩
    have n1 := (rootR b part n p (path, false)).1.len
    have n2 := hr.len
    have n3 : (rootR b part n p (path, false)).1.val.length = 32 ∧ root.length = 32 := ⟨n1, n2⟩
    repeat' (first | with_reducible apply Stp.go | with_reducible refine imp fun _ => ?_ | (with_reducible refine hyp ?_ ?_; first | assumption | exact leftT_mem (by assumption)) | (with_reducible refine need ?_ ?_; first | trivial | omega | exact ⟨by assumption, by omega⟩ | (simp only [List.length_append, List.length_cons, List.length_nil, List.length_map, List.length_take, List.length_drop, List.length_replicate, List.length_set]; omega)) | (with_reducible refine fact ?_ ?_; first | trivial | exact ⟨rfl, rfl⟩ | kernel_rfl) | with_reducible refine choT (by assumption) ?_ | with_reducible refine choF (by assumption) ?_ | with_reducible refine choF' (by assumption) ?_ | (with_reducible refine altT ?_ ?_; first | omega | (simp only [List.length_append, List.length_cons, List.length_nil, List.length_map, List.length_take, List.length_drop, List.length_replicate, List.length_set]; omega)) | with_reducible refine altF ?_ | with_reducible refine all fun _ => ?_ | with_reducible refine both ?_ ?_ | (with_reducible refine choT ?_ ?_; omega) | (with_reducible refine choF ?_ ?_; omega) | with_reducible refine cho (fun _ => ?_) (fun _ => ?_))
    all_goals
      refine ⟨_, _, _, rfl, Sub.app_nil _, ?_, rfl⟩
      simp_all
  · have e : checkR b ⟨root, hr.len⟩ cnt p part path = false := by rw [checkR, decide_eq_false h, Bool.false_and]
    rw [e]
    repeat' (first | with_reducible apply Stp.go | with_reducible refine imp fun _ => ?_ | (with_reducible refine hyp ?_ ?_; first | assumption | exact leftT_mem (by assumption)) | (with_reducible refine need ?_ ?_; first | trivial | omega | exact ⟨by assumption, by omega⟩ | (simp only [List.length_append, List.length_cons, List.length_nil, List.length_map, List.length_take, List.length_drop, List.length_replicate, List.length_set]; omega)) | (with_reducible refine fact ?_ ?_; first | trivial | exact ⟨rfl, rfl⟩ | kernel_rfl) | with_reducible refine choT (by assumption) ?_ | with_reducible refine choF (by assumption) ?_ | with_reducible refine choF' (by assumption) ?_ | (with_reducible refine altT ?_ ?_; first | omega | (simp only [List.length_append, List.length_cons, List.length_nil, List.length_map, List.length_take, List.length_drop, List.length_replicate, List.length_set]; omega)) | with_reducible refine altF ?_ | with_reducible refine all fun _ => ?_ | with_reducible refine both ?_ ?_ | (with_reducible refine choT ?_ ?_; omega) | (with_reducible refine choF ?_ ?_; omega) | with_reducible refine cho (fun _ => ?_) (fun _ => ?_))
    all_goals first
      | exact ⟨_, _, _, rfl, Sub.app_nil _, rfl, rfl⟩
      | (exfalso; omega)
instance {a a2 : AV} {root : List UInt8} {part : List (List UInt8)} {m m' : SM} {b : Int} {cnt p : Int} {path : List D32} [hr : Len32 root] [h : IsL a bl 1 part m] [h2 : IsL a2 dgF 32 path m'] : PC Go.Proofs.Try.prog 54 [trA b, dgA root, I .i64 cnt, I .i64 p, a, a2] (cnt ≤ 9223372036854775807 ∧ part.length ≤ 1000000000 ∧ ∀ b ∈ part, b.length ≤ 100000000000000) (B (checkR b ⟨root, hr.len⟩ cnt p part path)) := ⟨fun hl => ⟨[trA b, dgA root, I .i64 cnt, I .i64 p, .lst 1 (part.map bl) m, .lst 32 (path.map dgF) .ro], ⟨SubV.refl _, SubV.refl _, SubV.refl _, SubV.refl _, h.sub, fun R v hv => SubV.ro _ _ _ R v (h2.sub R v hv), trivial⟩, CheckRange_ok b root cnt p part m path hl.1 hl.2.1 hl.2.2⟩⟩
end Go.Ab

/- A table's points and spans: what is told of a list. No program in sight. -/
set_option linter.unusedVariables false
set_option linter.unusedSimpArgs false
namespace Go.Ab
theorem whole_enB {e : En} (h : right e = true) : wholeB (enB e) = true ∧ parseV (enB e) = e := by
  have := parse_put e h []
  rw [List.append_nil, ← enB_right h] at this
  simp [wholeB, parseV, parseX, parseN, this]
theorem getD_mem {α : Type} [Inhabited α] {l : List α} {i : Nat} (h : i < l.length) : l.getD i default ∈ l := by
  rw [List.getD_eq_getElem?_getD, List.getElem?_eq_getElem h]; exact List.getElem_mem _
theorem getD_mapd {α β : Type} [Inhabited α] [Inhabited β] (f : α → β) {l : List α} {i : Nat} (h : i < l.length) : (l.map f).getD i default = f (l.getD i default) := by
  rw [List.getD_eq_getElem?_getD, List.getD_eq_getElem?_getD, List.getElem?_map, List.getElem?_eq_getElem h]; rfl
theorem holds_real (b : Int) {l : List En} (hr : ∀ i, i < l.length → right (l.getD i default) = true) {i : Nat} (h : i < l.length) : holdsB b (rootF b (l.map enB)) (l.length : Nat) (i : Nat) ((l.map enB).getD i default) (pathD b (l.map enB) i) = true ∧ parseV ((l.map enB).getD i default) = l.getD i default := by
  rw [getD_mapd enB h]
  obtain ⟨h1, h2⟩ := whole_enB (hr i h)
  refine ⟨?_, h2⟩
  obtain ⟨p1, p2⟩ := path_root b l.length (l.map enB) i (by simp) h
  rw [getD_mapd enB h] at p2
  rw [holdsB, h1, Bool.true_and, checkZ_nat _ _ _ _ h, checkB, decide_eq_true p1, Bool.true_and, decide_eq_true p2]
/-- An entry's key is one of those that are asked for. -/
def inS (lo hi : List UInt8) (e : En) : Bool := !lt e.key lo && belowB e.key hi
theorem filter_span {l : List En} (hr : Rises l) (lo hi : List UInt8) : ((l.take (spTo l hi)).drop (spFrom l lo)).filter (inS lo hi) = l.filter (inS lo hi) := by
  have hp1 := placeN_le l lo
  have hp2 := placeN_le l hi
  have e1 : l.filter (inS lo hi) = (l.take (spTo l hi)).filter (inS lo hi) ++ (l.drop (spTo l hi)).filter (inS lo hi) := by rw [← List.filter_append, List.take_append_drop]
  have e2 : (l.take (spTo l hi)).filter (inS lo hi) = ((l.take (spTo l hi)).take (spFrom l lo)).filter (inS lo hi) ++ ((l.take (spTo l hi)).drop (spFrom l lo)).filter (inS lo hi) := by rw [← List.filter_append, List.take_append_drop]
  have e3 : ((l.take (spTo l hi)).take (spFrom l lo)).filter (inS lo hi) = [] := by
    rw [List.filter_eq_nil_iff]
    intro x hx
    obtain ⟨i, hi', hx⟩ := List.mem_iff_getElem.1 hx
    have h7 : i < spFrom l lo ∧ i < l.length := by
      simp only [List.length_take] at hi'; omega
    have e6 : x = l.getD i default := by
      rw [List.getElem_take, List.getElem_take] at hx
      rw [← hx, List.getD_eq_getElem?_getD, List.getElem?_eq_getElem h7.2]; rfl
    have h8 := (place_at hr lo h7.2).2 (by unfold spFrom at h7; omega)
    rw [e6, inS, h8]
    simp
  have e4 : (l.drop (spTo l hi)).filter (inS lo hi) = [] := by
    rw [List.filter_eq_nil_iff]
    intro x hx
    obtain ⟨i, hi', hx⟩ := List.mem_iff_getElem.1 hx
    have h6 : spTo l hi + i < l.length := by rw [List.length_drop] at hi'; omega
    have e6 : x = l.getD (spTo l hi + i) default := by
      rw [List.getElem_drop] at hx
      rw [← hx, List.getD_eq_getElem?_getD, List.getElem?_eq_getElem h6]; rfl
    have h7 : hi ≠ [] := by
      intro h; subst h; unfold spTo at h6; simp at h6; omega
    have h8 : lt (l.getD (spTo l hi + i) default).key hi = false := by
      rw [Bool.eq_false_iff]; intro h
      have := (place_at hr hi h6).1 h
      unfold spTo at this h6; rw [if_neg h7] at this h6; omega
    rw [e6, inS, belowB, decide_eq_false h7, h8]
    simp
  rw [e1, e2, e3, e4]
  simp
end Go.Ab

/- Steps (part 14): variables that turn no more, told as frozen memory, also within what closures hold. No program in sight. -/
set_option linter.unusedVariables false
set_option linter.unusedSimpArgs false
namespace Go.Ab
variable {P : Program}
theorem freeze_var {R : RO} {w : World} {σ1 σ2 : Store} {b : Nat} {t : TypeId} {cs : List AV} (hs : St R w (σ1 ++ .var b t cs :: σ2)) :
    ∃ R' : RO, R.le R' ∧ St R' w (σ1 ++ σ2) ∧ Ext R w (σ1 ++ .var b t cs :: σ2) R' w (σ1 ++ σ2) ∧ VR R' (.pointer (some ⟨b, 0, none⟩)) (.rptr cs) := by
  have hp := List.pairwise_append.1 hs.apart
  have hp2 := List.pairwise_cons.1 hp.2.1
  let R' : RO := fun a => if a.block = b ∧ a.spot = none then w.cell? a else R a
  have hle : R.le R' := by
    intro a x ha
    show (if _ then _ else _) = _
    split
    · exact hs.ro a x ha
    · exact ha
  have hR : ∀ a x, R' a = some x → R a = some x ∨ a.block = b := by
    intro a x ha
    by_cases h : a.block = b ∧ a.spot = none
    · exact .inr h.1
    · have : R' a = R a := if_neg h
      rw [this] at ha
      exact .inl ha
  have hmem : (Ent.var b t cs) ∈ σ1 ++ .var b t cs :: σ2 := by simp
  obtain ⟨⟨vs, h3, h4, h5⟩, h6⟩ := hs.ents _ hmem
  refine ⟨R', hle, ⟨fun a x ha => ?_, fun e he => ?_, ?_⟩, ⟨hle, rfl, rfl, rfl, Nat.le_refl _, fun _ _ _ => rfl, fun k hk => .inl ?_, fun a x ha => ?_⟩, ?_⟩
  · by_cases h : a.block = b ∧ a.spot = none
    · have : R' a = w.cell? a := if_pos h
      rw [← this]; exact ha
    · have : R' a = R a := if_neg h
      rw [this] at ha
      exact hs.ro a x ha
  · have hne : ∀ k, e.blk = some k → k ≠ b := by
      intro k hb hvb
      rcases List.mem_append.1 he with he | he
      · exact hp.2.2 e he _ (List.mem_cons_self ..) k hb (by rw [hvb]; rfl)
      · exact hp2.1 e he b rfl (hvb ▸ hb)
    have he' : e ∈ σ1 ++ .var b t cs :: σ2 := by
      rcases List.mem_append.1 he with he | he
      · exact List.mem_append.2 (.inl he)
      · exact List.mem_append.2 (.inr (List.mem_cons_of_mem _ he))
    refine (hs.ents e he').keep hle (fun _ _ => rfl) fun k hb a x ha hab => ?_
    rcases hR a x ha with h | h
    · exact h
    · exact absurd (hab ▸ h) (hne k hb)
  · refine List.pairwise_append.2 ⟨hp.1, hp2.2, fun x hx y hy => hp.2.2 x hx y (List.mem_cons_of_mem _ hy)⟩
  · rw [blks_append] at hk ⊢
    rcases List.mem_append.1 hk with hk | hk
    · exact List.mem_append.2 (.inl hk)
    · obtain ⟨e, he, hb⟩ := mem_blks.1 hk
      exact List.mem_append.2 (.inr (mem_blks.2 ⟨e, List.mem_cons_of_mem _ he, hb⟩))
  · rcases hR a x ha with h | h
    · exact .inl h
    · exact .inr (.inr (mem_blks.2 ⟨_, hmem, by rw [h]; rfl⟩))
  · refine .rptr vs h4.1 (h4.mono hle).2 fun j v hj => ?_
    have hc : R' ((⟨b, 0, none⟩ : Addr).add j) = w.cell? ((⟨b, 0, none⟩ : Addr).add j) := if_pos (by rw [addr_lit_add]; exact ⟨rfl, rfl⟩)
    rw [hc]
    rw [addr_lit_add, Nat.zero_add]
    simp [World.cell?, h3, hj]
/-- Told the same, but that a variable is frozen memory now. -/
class Fz (b : Nat) (cs : List AV) (u : AV) (u' : outParam AV) : Prop where
  fz : ∀ R v, VR R (.pointer (some ⟨b, 0, none⟩)) (.rptr cs) → VR R v u → VR R v u'
class FzL (b : Nat) (cs : List AV) (us : List AV) (us' : outParam (List AV)) : Prop where
  fz : ∀ R vs, VR R (.pointer (some ⟨b, 0, none⟩)) (.rptr cs) → VRs R vs us → VRs R vs us'
instance (priority := 10) fzSame (b : Nat) (cs : List AV) (u : AV) : Fz b cs u u := ⟨fun _ _ _ h => h⟩
instance (priority := 100) fzPtr (b : Nat) (cs : List AV) : Fz b cs (.val (.pointer (some ⟨b, 0, none⟩))) (.rptr cs) := ⟨fun R v h hv => by rw [hv.val_inv]; exact h⟩
instance (b : Nat) (cs : List AV) : FzL b cs [] [] := ⟨fun _ _ _ h => h⟩
instance (b : Nat) (cs : List AV) (u u' : AV) (us us' : List AV) [h : Fz b cs u u'] [k : FzL b cs us us'] : FzL b cs (u :: us) (u' :: us') := ⟨fun R vs hp hv => by
  obtain ⟨hl, hr⟩ := hv
  match vs, hl with
  | v :: vs, hl =>
    exact VRs.cons (h.fz R v hp (hr 0 u v rfl rfl)) (k.fz R vs hp ⟨by simpa using hl, fun j x y hx hy => hr (j + 1) x y (by simpa using hx) (by simpa using hy)⟩)⟩
instance (priority := 90) fzFn (b : Nat) (cs : List AV) (f : Fn) (us us' ws ws' : List AV) [h : FzL b cs us us'] [k : FzL b cs ws ws'] : Fz b cs (.fn f us ws) (.fn f us' ws') := ⟨fun R v hp hv => by
  cases hv with
  | fn hl hv hl' hv' =>
    have h1 := h.fz R _ hp ⟨hl, hv⟩
    have h2 := k.fz R _ hp ⟨hl', hv'⟩
    exact .fn h1.1 h1.2 h2.1 h2.2⟩
/-- A variable that nobody writes any more. -/
theorem Sub.frzV {b : Nat} {t : TypeId} {cs : List AV} {σ1 σ2 : Store} {us us' : List AV} [h : FzL b cs us us'] : Sub (σ1 ++ .var b t cs :: σ2) us (σ1 ++ σ2) us' := by
  intro R w vs hv hs
  obtain ⟨R', h1, h2, h3, h4⟩ := freeze_var hs
  exact ⟨R', h.fz R' vs h4 (hv.mono h1), h2, h3⟩
theorem Sub.frzVar {b : Nat} {t : TypeId} {cs : List AV} {σ rest : Store} {put : Ent → Store} {us us' : List AV} [hv : VarAt b σ t cs put rest] [h : FzL b cs us us'] : Sub σ us rest us' := by
  obtain ⟨σ1, σ2, e, _, e2⟩ := hv.at_
  rw [e, e2]
  exact Sub.frzV
/-- A call, its arguments told in other words. -/
theorem callBy {f : FuncId} {args args' : List AV} {σ σ' : Store} {k kp : AV → Store → Prop} {pre : Prop} {β : Type} {c : β → Prop} {r : β → AV} {s : β → Store} (hs : Sub σ args σ' args') [h : EQ P f args' σ' pre β c r s] (hp : pre) (hk : ∀ y, c y → k (r y) (s y)) : aCall P f args σ k kp :=
  Or.inl ⟨σ', args', hs, (h.ct hp).mono fun x τ ⟨y, e0, e1, e2⟩ => by rw [e1, e2]; exact hk y e0⟩
end Go.Ab

/- What a table has of some keys, checked. -/
set_option linter.unusedVariables false
set_option linter.unusedSimpArgs false
namespace Go.Ab
/-- What comes ahead of the leaves. -/
def spanIn (f g lo hi : List UInt8) (cnt p : Int) (n : Nat) : Bool := overB f g lo hi && decide (n ≠ 0 ∧ (n : Int) ≤ cnt ∧ 0 ≤ p ∧ p ≤ cnt)
/-- What is asked of the entries. -/
def spanL (b : Int) (root : D32) (cnt : Int) (lo hi : List UInt8) (p : Int) (L : List (List UInt8)) (path : List D32) : Bool :=
  !(!lt ((L.map parseV).getD 0 default).key lo && decide (0 < p)) && (!(belowB ((L.map parseV).getD (L.length - 1) default).key hi && decide (p + L.length < cnt)) && (sorted (L.map parseV) && checkR b root cnt p L path))
def spanC (b : Int) (root : D32) (cnt : Int) (f g lo hi : List UInt8) (p : Int) (L : List (List UInt8)) (path : List D32) : Nat × List En :=
  if spanIn f g lo hi cnt p L.length = true then
    if L.all wholeB = true then
      if spanL b root cnt lo hi p L path = true then (0, (L.map parseV).filter (inS lo hi)) else (8, [])
    else (8, [])
  else (8, [])
def seek_CheckSpan_1.mark : Mark := ⟨fun t => Nat.beq t 13, fun t => false, fun t => Nat.beq t 3, fun t => Nat.beq t 6 || Nat.beq t 11, fun t => false⟩
def seek_CheckSpan_1.ann : Ann := ⟨fun n => [], fun n => none, fun n => none⟩
/-- 'marlstone/seek.CheckSpan$1' -/
def seek_CheckSpan_1.sh (a0 a1 a2 : AV) (σ : Store) (Q : AEnd → Store → Prop) : Prop :=
  Do (aFreeze ((a0 : AV)).cells) fun t3 =>
  Do (aFieldAddr 0 1 t3) fun t5 =>
  Do (loadF false 1 t5) fun t6 =>
  Do (loadA false 1 a1 σ) fun t7 =>
  Do (aBin Go.Proofs.Try.prog .lss 9 t6 t7) fun t8 =>
  Do (aGuard t8 false (aFieldAddr 0 1 t3)) fun t10 =>
  Do (aGuard t8 false (loadF false 1 t10)) fun t11 =>
  Do (aGuard t8 false (loadA false 1 a2 σ)) fun t12 =>
  Do (aGuard t8 false (aPureC Go.Proofs.Try.prog 43 [t11, t12])) fun t13 =>
  Do (aGuard t8 false (aUn Go.Proofs.Try.prog .not t13)) fun t14 =>
  Do (aPick t8 (.val (.bool true)) t14) fun t15 =>
  Q (.ret t15) σ
theorem seek_CheckSpan_1.eq (a0 a1 a2 : AV) (σ : Store) (Q : AEnd → Store → Prop) : vc (semOf Go.Proofs.Try.prog seek_CheckSpan_1.mark) Go.Proofs.Try.f56.ntmps seek_CheckSpan_1.ann (bodyOf Go.Proofs.Try.f56) (endK [.tmp 4] Q) (argFr [a0, a1, a2]) σ = seek_CheckSpan_1.sh a0 a1 a2 σ Q := by kernel_rfl
theorem seek_CheckSpan_1.go {a0 a1 a2 : AV} {σ : Store} {Q : AEnd → Store → Prop} (h : seek_CheckSpan_1.sh a0 a1 a2 σ Q) : ACalls Go.Proofs.Try.prog 56 [a0, a1, a2] σ Q :=
  acalls_of_eq [.tmp 4] Go.Proofs.Try.func56 (by kernel_rfl) (by kernel_rfl) (by kernel_rfl) (by kernel_rfl) (seek_CheckSpan_1.eq a0 a1 a2 σ Q) h
def seek_CheckSpan.mark : Mark := ⟨fun t => Nat.beq t 26 || Nat.beq t 59 || Nat.beq t 87 || Nat.beq t 118, fun t => false, fun t => Nat.beq t 5 || Nat.beq t 6 || Nat.beq t 9, fun t => Nat.beq t 21 || Nat.beq t 23 || Nat.beq t 35 || Nat.beq t 40 || Nat.beq t 45 || Nat.beq t 47 || Nat.beq t 51 || Nat.beq t 56 || Nat.beq t 77 || Nat.beq t 90 || Nat.beq t 94 || Nat.beq t 107 || Nat.beq t 109 || Nat.beq t 111 || Nat.beq t 113 || Nat.beq t 115 || Nat.beq t 117, fun t => Nat.beq t 103⟩
def seek_CheckSpan.ann : Ann := ⟨fun n => bif Nat.beq n 6 then [5, 6, 7, 8, 9, 12, 13, 51, 52, 53] else [], fun n => none, fun n => none⟩
/-- 'marlstone/seek.CheckSpan' -/
def seek_CheckSpan.sh (a0 a1 a2 a3 a4 : AV) (σ : Store) (Q : AEnd → Store → Prop) : Prop :=
  Do (aFreeze ((a0 : AV)).cells) fun t5 =>
  Do (aFreeze ((a1 : AV)).cells) fun t6 =>
  aNewVar 9 (a2 : AV).cells σ fun t7 σ =>
  aNewVar 9 (a3 : AV).cells σ fun t8 σ_1 =>
  Do (aFreeze ((a4 : AV)).cells) fun t9 =>
  Do (aFieldAddr 1 1 t9) fun t20 =>
  Do (loadF false 1 t20) fun t21 =>
  Do (aBuiltin Go.Proofs.Try.prog .len #[37] [t21]) fun t22 =>
  Do (loadF true 36 t6) fun t23 =>
  Do (loadA false 1 t7 σ_1) fun t24 =>
  Do (loadA false 1 t8 σ_1) fun t25 =>
  Do (aPureC Go.Proofs.Try.prog 20 [t23, t24, t25]) fun t26 =>
  Do (aUn Go.Proofs.Try.prog .not t26) fun t27 =>
  Do (aGuard t27 false (aIs t22)) fun t29 =>
  Do (aGuard t27 false (aBin Go.Proofs.Try.prog .eql 3 t29 (.val (.int .i64 0)))) fun t30 =>
  Do (aPick t27 (.val (.bool true)) t30) fun t31 =>
  Do (aGuard t31 false (aIs t22)) fun t33 =>
  Do (aGuard t31 false (aFieldAddr 1 1 t6)) fun t34 =>
  Do (aGuard t31 false (loadF false 1 t34)) fun t35 =>
  Do (aGuard t31 false (aBin Go.Proofs.Try.prog .gtr 3 t33 t35)) fun t36 =>
  Do (aPick t31 (.val (.bool true)) t36) fun t37 =>
  Do (aGuard t37 false (aFieldAddr 0 1 t9)) fun t39 =>
  Do (aGuard t37 false (loadF false 1 t39)) fun t40 =>
  Do (aGuard t37 false (aBin Go.Proofs.Try.prog .lss 3 t40 (.val (.int .i64 0)))) fun t41 =>
  Do (aPick t37 (.val (.bool true)) t41) fun t42 =>
  Do (aGuard t42 false (aFieldAddr 0 1 t9)) fun t44 =>
  Do (aGuard t42 false (loadF false 1 t44)) fun t45 =>
  Do (aGuard t42 false (aFieldAddr 1 1 t6)) fun t46 =>
  Do (aGuard t42 false (loadF false 1 t46)) fun t47 =>
  Do (aGuard t42 false (aBin Go.Proofs.Try.prog .gtr 3 t45 t47)) fun t48 =>
  Do (aPick t42 (.val (.bool true)) t48) fun t49 =>
  aCond t49
    (Q (.ret (.tuple [(.val (.slice none 0 0)), (.val (.int .i64 8))])) σ_1)
    (Do (aFieldAddr 1 1 t9) fun t50 =>
  Do (loadF false 1 t50) fun t51 =>
  Do (aBuiltin Go.Proofs.Try.prog .len #[37] [t51]) fun t52 =>
  aLoop (fun go vs σ_2 =>
    At vs 0 fun s5 => At vs 1 fun s6 => At vs 2 fun s7 => At vs 3 fun s8 => At vs 4 fun s9 => At vs 5 fun s12 => At vs 6 fun s13 => At vs 7 fun s51 => At vs 8 fun s52 => At vs 9 fun s53 => Do (aBin Go.Proofs.Try.prog .lss 3 s53 s52) fun t54 =>
    aCond t54
      (Do (aIndexAddr .slice 1 s51 s53) fun t55 =>
    Do (loadF false 1 t55) fun t56 =>
    Do (aPureC Go.Proofs.Try.prog 52 [t56]) fun t59 =>
    Do (aExt t59 0) fun t60 =>
    Do (aExt t59 1) fun t61 =>
    aNewVar 54 [.val (.string ⟨#[]⟩), .val (.string ⟨#[]⟩), .val (.bool false), .val (.int .i64 0)] σ_2 fun t16 σ_3 =>
    storeA 4 t16 t60 σ_3 fun u σ_4 =>
    Do (aUn Go.Proofs.Try.prog .not t61) fun t63 =>
    aCond t63
      (Q (.ret (.tuple [(.val (.slice none 0 0)), (.val (.int .i64 8))])) σ_4)
      (Do (loadA true 4 t16 σ_4) fun t65 =>
    Do (aSlLit (mkE [.val (.string ⟨#[]⟩), .val (.string ⟨#[]⟩), .val (.bool false), .val (.int .i64 0)]) 4 1 [(0, t65)]) fun t66 =>
    aAppend 54 4 48 s13 t66 σ_4 (subK fun t67 σ_5 =>
    Do (aBin Go.Proofs.Try.prog .add 3 s53 (.val (.int .i64 1))) fun t68 =>
    go [s5, s6, s7, s8, s9, s12, t67, s51, s52, t68] σ_5)))
      (Do (aIndexAddr .slice 4 s13 (.val (.int .i64 0))) fun t70 =>
  Do (aFieldAddr 0 1 t70) fun t71 =>
  Do (loadA false 1 t71 σ_2) fun t72 =>
  Do (loadA false 1 s7 σ_2) fun t73 =>
  Do (aBin Go.Proofs.Try.prog .geq 9 t72 t73) fun t74 =>
  Do (aGuard t74 true (aFieldAddr 0 1 s9)) fun t76 =>
  Do (aGuard t74 true (loadF false 1 t76)) fun t77 =>
  Do (aGuard t74 true (aBin Go.Proofs.Try.prog .gtr 3 t77 (.val (.int .i64 0)))) fun t78 =>
  Do (aPick t74 t78 (.val (.bool false))) fun t79 =>
  Do (aBin Go.Proofs.Try.prog .sub 3 s12 (.val (.int .i64 1))) fun t82 =>
  Do (aIndexAddr .slice 4 s13 t82) fun t83 =>
  Do (aFieldAddr 0 1 t83) fun t84 =>
  Do (loadA false 1 t84 σ_2) fun t85 =>
  Do (loadA false 1 s8 σ_2) fun t86 =>
  Do (aPureC Go.Proofs.Try.prog 43 [t85, t86]) fun t87 =>
  Do (aGuard t87 true (aFieldAddr 0 1 s9)) fun t89 =>
  Do (aGuard t87 true (loadF false 1 t89)) fun t90 =>
  Do (aGuard t87 true (aIs s12)) fun t91 =>
  Do (aGuard t87 true (aBin Go.Proofs.Try.prog .add 3 t90 t91)) fun t92 =>
  Do (aGuard t87 true (aFieldAddr 1 1 s6)) fun t93 =>
  Do (aGuard t87 true (loadF false 1 t93)) fun t94 =>
  Do (aGuard t87 true (aBin Go.Proofs.Try.prog .lss 3 t92 t94)) fun t95 =>
  Do (aPick t87 t95 (.val (.bool false))) fun t96 =>
  Do (aGuard t79 false (aIs t96)) fun t99 =>
  Do (aPick t79 (.val (.bool true)) t99) fun t100 =>
  Do (aGuard t100 false (aIs s13)) fun t102 =>
  Do (aGuard t100 false (lookC Go.Proofs.Try.prog 53 [t102] σ_2)) fun t103 =>
  Do (aGuard t100 false (aUn Go.Proofs.Try.prog .not t103)) fun t104 =>
  Do (aPick t100 (.val (.bool true)) t104) fun t105 =>
  Do (aGuard t105 false (loadF true 1 s5)) fun t107 =>
  Do (aGuard t105 false (aFieldAddr 2 32 s6)) fun t108 =>
  Do (aGuard t105 false (loadF true 32 t108)) fun t109 =>
  Do (aGuard t105 false (aFieldAddr 1 1 s6)) fun t110 =>
  Do (aGuard t105 false (loadF false 1 t110)) fun t111 =>
  Do (aGuard t105 false (aFieldAddr 0 1 s9)) fun t112 =>
  Do (aGuard t105 false (loadF false 1 t112)) fun t113 =>
  Do (aGuard t105 false (aFieldAddr 1 1 s9)) fun t114 =>
  Do (aGuard t105 false (loadF false 1 t114)) fun t115 =>
  Do (aGuard t105 false (aFieldAddr 2 1 s9)) fun t116 =>
  Do (aGuard t105 false (loadF false 1 t116)) fun t117 =>
  Do (aGuard t105 false (aPureC Go.Proofs.Try.prog 54 [t107, t109, t111, t113, t115, t117])) fun t118 =>
  Do (aGuard t105 false (aUn Go.Proofs.Try.prog .not t118)) fun t119 =>
  Do (aPick t105 (.val (.bool true)) t119) fun t120 =>
  aCond t120
    (Q (.ret (.tuple [(.val (.slice none 0 0)), (.val (.int .i64 8))])) σ_2)
    (aCall Go.Proofs.Try.prog 55 [s13, (.fn (.func 56) [] [s7, s8])] σ_2 (fun t123 σ_6 =>
  Q (.ret (.tuple [t123, (.val (.int .i64 0))])) σ_6) (fun e σ_7 => Q (.pan e) σ_7))))
    [t5, t6, t7, t8, t9, t22, (.val (.slice none 0 0)), t51, t52, (.val (.int .i64 0))] σ_1)
theorem seek_CheckSpan.eq (a0 a1 a2 a3 a4 : AV) (σ : Store) (Q : AEnd → Store → Prop) : vc (semOf Go.Proofs.Try.prog seek_CheckSpan.mark) Go.Proofs.Try.f26.ntmps seek_CheckSpan.ann (bodyOf Go.Proofs.Try.f26) (endK [.tmp 10, .tmp 11] Q) (argFr [a0, a1, a2, a3, a4]) σ = seek_CheckSpan.sh a0 a1 a2 a3 a4 σ Q := by kernel_rfl
theorem seek_CheckSpan.go {a0 a1 a2 a3 a4 : AV} {σ : Store} {Q : AEnd → Store → Prop} (h : seek_CheckSpan.sh a0 a1 a2 a3 a4 σ Q) : ACalls Go.Proofs.Try.prog 26 [a0, a1, a2, a3, a4] σ Q :=
  acalls_of_eq [.tmp 10, .tmp 11] Go.Proofs.Try.func26 (by kernel_rfl) (by kernel_rfl) (by kernel_rfl) (by kernel_rfl) (seek_CheckSpan.eq a0 a1 a2 a3 a4 σ Q) h
theorem cspan1_ok (e : En) (lo hi : List UInt8) : aPure Go.Proofs.Try.prog 56 [e.av, .rptr [S lo], .rptr [S hi]] (B (!inS lo hi e)) := by
  refine seek_CheckSpan_1.go ?_
  unfold seek_CheckSpan_1.sh
  cases h : lt e.key lo with
  | true =>
    have e : inS lo hi e = false := by unfold inS; rw [h]; rfl
    rw [e]
    repeat' (first | with_reducible apply Stp.go | with_reducible refine imp fun _ => ?_ | (with_reducible refine hyp ?_ ?_; first | assumption | exact leftT_mem (by assumption)) | (with_reducible refine need ?_ ?_; first | trivial | omega | exact ⟨by assumption, by omega⟩ | (simp only [List.length_append, List.length_cons, List.length_nil, List.length_map, List.length_take, List.length_drop, List.length_replicate, List.length_set]; omega)) | (with_reducible refine fact ?_ ?_; first | trivial | exact ⟨rfl, rfl⟩ | kernel_rfl) | with_reducible refine choT (by assumption) ?_ | with_reducible refine choF (by assumption) ?_ | with_reducible refine choF' (by assumption) ?_ | (with_reducible refine altT ?_ ?_; first | omega | (simp only [List.length_append, List.length_cons, List.length_nil, List.length_map, List.length_take, List.length_drop, List.length_replicate, List.length_set]; omega)) | with_reducible refine altF ?_ | with_reducible refine all fun _ => ?_ | with_reducible refine both ?_ ?_ | (with_reducible refine choT ?_ ?_; omega) | (with_reducible refine choF ?_ ?_; omega) | with_reducible refine cho (fun _ => ?_) (fun _ => ?_))
    all_goals exact ⟨rfl, rfl⟩
  | false =>
    have e : inS lo hi e = belowB e.key hi := by unfold inS; rw [h]; rfl
    rw [e]
    have hff : ¬ (false : Bool) = true := by decide
    repeat' (first | with_reducible apply Stp.go | with_reducible refine imp fun _ => ?_ | (with_reducible refine hyp ?_ ?_; first | assumption | exact leftT_mem (by assumption)) | (with_reducible refine need ?_ ?_; first | trivial | omega | exact ⟨by assumption, by omega⟩ | (simp only [List.length_append, List.length_cons, List.length_nil, List.length_map, List.length_take, List.length_drop, List.length_replicate, List.length_set]; omega)) | (with_reducible refine fact ?_ ?_; first | trivial | exact ⟨rfl, rfl⟩ | kernel_rfl) | with_reducible refine choT (by assumption) ?_ | with_reducible refine choF (by assumption) ?_ | with_reducible refine choF' (by assumption) ?_ | (with_reducible refine altT ?_ ?_; first | omega | (simp only [List.length_append, List.length_cons, List.length_nil, List.length_map, List.length_take, List.length_drop, List.length_replicate, List.length_set]; omega)) | with_reducible refine altF ?_ | with_reducible refine all fun _ => ?_ | with_reducible refine both ?_ ?_ | (with_reducible refine choT ?_ ?_; omega) | (with_reducible refine choF ?_ ?_; omega) | with_reducible refine cho (fun _ => ?_) (fun _ => ?_))
    all_goals exact ⟨rfl, rfl⟩
instance {lo hi : List UInt8} : Pred Go.Proofs.Try.prog (.fn (.func 56) [] [.rptr [S lo], .rptr [S hi]]) (fun e => !inS lo hi e) := ⟨fun e => ⟨_, [], [.rptr [S lo], .rptr [S hi]], _, rfl, SubVs.refl _, cspan1_ok e lo hi⟩⟩
theorem CheckSpan_ok (b lev cnt : Int) (d f g lo hi : List UInt8) [hd : Len32 d] (p : Int) (L : List (List UInt8)) (path : List D32) (hc : cnt ≤ 9223372036854775807) (hl : L.length ≤ 1000000) (hb : ∀ b ∈ L, b.length ≤ 100000000000000) :
    aPure Go.Proofs.Try.prog 26 [trA b, tabA lev cnt d f g, S lo, S hi, spA p L path] (.tuple [.lst 4 ((spanC b ⟨d, hd.len⟩ cnt f g lo hi p L path).2.map En.av) .ro, I .i64 ((spanC b ⟨d, hd.len⟩ cnt f g lo hi p L path).1 : Nat)]) := by
  refine ACalls.fin (seek_CheckSpan.go ?_)
  unfold seek_CheckSpan.sh
  cases hin : spanIn f g lo hi cnt p L.length with
  | false =>
    have e : spanC b ⟨d, hd.len⟩ cnt f g lo hi p L path = (8, []) := by unfold spanC; rw [if_neg (by rw [hin]; decide)]
    rw [e]
    unfold spanIn at hin
    by_cases hc2 : L.length ≠ 0 ∧ (L.length : Int) ≤ cnt ∧ 0 ≤ p ∧ p ≤ cnt
    · rw [decide_eq_true hc2, Bool.and_true] at hin
      have hff : ¬ overB f g lo hi = true := by rw [hin]; decide
      repeat' (first | with_reducible apply Stp.go | with_reducible refine imp fun _ => ?_ | (with_reducible refine hyp ?_ ?_; first | assumption | exact leftT_mem (by assumption)) | (with_reducible refine need ?_ ?_; first | trivial | omega | exact ⟨by assumption, by omega⟩ | (simp only [List.length_append, List.length_cons, List.length_nil, List.length_map, List.length_take, List.length_drop, List.length_replicate, List.length_set]; omega)) | (with_reducible refine fact ?_ ?_; first | trivial | exact ⟨rfl, rfl⟩ | kernel_rfl) | with_reducible refine choT (by assumption) ?_ | with_reducible refine choF (by assumption) ?_ | with_reducible refine choF' (by assumption) ?_ | (with_reducible refine altT ?_ ?_; first | omega | (simp only [List.length_append, List.length_cons, List.length_nil, List.length_map, List.length_take, List.length_drop, List.length_replicate, List.length_set]; omega)) | with_reducible refine altF ?_ | with_reducible refine all fun _ => ?_ | with_reducible refine both ?_ ?_ | (with_reducible refine choT ?_ ?_; omega) | (with_reducible refine choF ?_ ?_; omega) | with_reducible refine cho (fun _ => ?_) (fun _ => ?_))
      all_goals exact ⟨_, _, _, rfl, Sub.tuple (retNil En.av (sz := 4) (by decide) (Sub.app_nil _)), rfl, rfl⟩
    · repeat' (first | with_reducible apply Stp.go | with_reducible refine imp fun _ => ?_ | (with_reducible refine hyp ?_ ?_; first | assumption | exact leftT_mem (by assumption)) | (with_reducible refine need ?_ ?_; first | trivial | omega | exact ⟨by assumption, by omega⟩ | (simp only [List.length_append, List.length_cons, List.length_nil, List.length_map, List.length_take, List.length_drop, List.length_replicate, List.length_set]; omega)) | (with_reducible refine fact ?_ ?_; first | trivial | exact ⟨rfl, rfl⟩ | kernel_rfl) | with_reducible refine choT (by assumption) ?_ | with_reducible refine choF (by assumption) ?_ | with_reducible refine choF' (by assumption) ?_ | (with_reducible refine altT ?_ ?_; first | omega | (simp only [List.length_append, List.length_cons, List.length_nil, List.length_map, List.length_take, List.length_drop, List.length_replicate, List.length_set]; omega)) | with_reducible refine altF ?_ | with_reducible refine all fun _ => ?_ | with_reducible refine both ?_ ?_ | (with_reducible refine choT ?_ ?_; omega) | (with_reducible refine choF ?_ ?_; omega) | with_reducible refine cho (fun _ => ?_) (fun _ => ?_))
      all_goals first
        | exact ⟨_, _, _, rfl, Sub.tuple (retNil En.av (sz := 4) (by decide) (Sub.app_nil _)), rfl, rfl⟩
        | (exfalso; omega)
  | true =>
    have hin' := hin
    unfold spanIn at hin'
    rw [Bool.and_eq_true, decide_eq_true_eq] at hin'
    obtain ⟨h1, h2, h3, h4, h5⟩ := hin'
    have h6 : ¬ cnt < (L.length : Int) := by omega
    have h7 : ¬ p < 0 := by omega
    have h8 : ¬ cnt < p := by omega
    repeat' (first | with_reducible apply Stp.go | with_reducible refine imp fun _ => ?_ | (with_reducible refine hyp ?_ ?_; first | assumption | exact leftT_mem (by assumption)) | (with_reducible refine need ?_ ?_; first | trivial | omega | exact ⟨by assumption, by omega⟩ | (simp only [List.length_append, List.length_cons, List.length_nil, List.length_map, List.length_take, List.length_drop, List.length_replicate, List.length_set]; omega)) | (with_reducible refine fact ?_ ?_; first | trivial | exact ⟨rfl, rfl⟩ | kernel_rfl) | with_reducible refine choT (by assumption) ?_ | with_reducible refine choF (by assumption) ?_ | with_reducible refine choF' (by assumption) ?_ | (with_reducible refine altT ?_ ?_; first | omega | (simp only [List.length_append, List.length_cons, List.length_nil, List.length_map, List.length_take, List.length_drop, List.length_replicate, List.length_set]; omega)) | with_reducible refine altF ?_ | with_reducible refine all fun _ => ?_ | with_reducible refine both ?_ ?_ | (with_reducible refine choT ?_ ?_; omega) | (with_reducible refine choF ?_ ?_; omega) | with_reducible refine cho (fun _ => ?_) (fun _ => ?_))
    rename_i r1 r2
    refine loopI (β := Nat × Value) (fun x => x.1 ≤ L.length ∧ (L.take x.1).all wholeB = true) (fun x => [.rptr [I .i64 b], .rptr (tabCs lev cnt d f g), ptrAt r1 0, ptrAt r2 0, .rptr [I .i64 p, .lst 1 (L.map bl) .ro, .lst 32 (path.map dgF) .ro], I .i64 (L.length : Nat), .own x.2 ((L.take x.1).map parseV).length, .lst 1 (L.map bl) .ro, I .i64 (L.length : Nat), I .i64 (x.1 : Nat)])
      (fun x => [.row x.2 54 4 (((L.take x.1).map parseV).map En.av) 0, .var r2 9 [S hi], .var r1 9 [S lo]]) (fun x => L.length - x.1) (0, .slice none 0 0) ⟨Nat.zero_le _, rfl⟩ (Sub.nil_own 54 (sz := 4) (by decide) [_, _] [_, _, _, _, _, _] [_, _, _]) ?_
    rintro ⟨i, v⟩ ⟨q1, q2⟩
    dsimp only at q1 q2 ⊢
    by_cases hlt : i < L.length
    · have e1 : (L.take (i + 1)).map parseV = (L.take i).map parseV ++ [parseV (L.getD i default)] := by rw [take_succ_d hlt, List.map_append]; rfl
      have e2 : (L.take (i + 1)).all wholeB = ((L.take i).all wholeB && wholeB (L.getD i default)) := by rw [take_succ_d hlt, List.all_append]; simp
      have hb0 : (L.getD i default).length ≤ 100000000000000 := hb _ (getD_mem hlt)
      have hk : ((L.take i).map parseV).length ≤ L.length := by simp; omega
      cases hw : wholeB (L.getD i default) with
      | true =>
        repeat' (first | with_reducible apply Stp.go | with_reducible refine imp fun _ => ?_ | (with_reducible refine hyp ?_ ?_; first | assumption | exact leftT_mem (by assumption)) | (with_reducible refine need ?_ ?_; first | trivial | omega | exact ⟨by assumption, by omega⟩ | (simp only [List.length_append, List.length_cons, List.length_nil, List.length_map, List.length_take, List.length_drop, List.length_replicate, List.length_set]; omega)) | (with_reducible refine fact ?_ ?_; first | trivial | exact ⟨rfl, rfl⟩ | kernel_rfl) | with_reducible refine choT (by assumption) ?_ | with_reducible refine choF (by assumption) ?_ | with_reducible refine choF' (by assumption) ?_ | (with_reducible refine altT ?_ ?_; first | omega | (simp only [List.length_append, List.length_cons, List.length_nil, List.length_map, List.length_take, List.length_drop, List.length_replicate, List.length_set]; omega)) | with_reducible refine altF ?_ | with_reducible refine all fun _ => ?_ | with_reducible refine both ?_ ?_ | (with_reducible refine choT ?_ ?_; omega) | (with_reducible refine choF ?_ ?_; omega) | with_reducible refine cho (fun _ => ?_) (fun _ => ?_))
        rename_i w
        refine again (i + 1, w) (by dsimp only; omega) ⟨by dsimp only; omega, by dsimp only; rw [e2, q2, hw]; rfl⟩ ?_
        dsimp only
        rw [e1]
        exact Sub.drop_ (List.sublist_cons_self _ _) _
      | false =>
        have e : spanC b ⟨d, hd.len⟩ cnt f g lo hi p L path = (8, []) := by
          unfold spanC
          rw [if_pos hin, if_neg]
          intro h
          have := List.all_eq_true.1 h _ (getD_mem hlt)
          rw [hw] at this; cases this
        rw [e]
        repeat' (first | with_reducible apply Stp.go | with_reducible refine imp fun _ => ?_ | (with_reducible refine hyp ?_ ?_; first | assumption | exact leftT_mem (by assumption)) | (with_reducible refine need ?_ ?_; first | trivial | omega | exact ⟨by assumption, by omega⟩ | (simp only [List.length_append, List.length_cons, List.length_nil, List.length_map, List.length_take, List.length_drop, List.length_replicate, List.length_set]; omega)) | (with_reducible refine fact ?_ ?_; first | trivial | exact ⟨rfl, rfl⟩ | kernel_rfl) | with_reducible refine choT (by assumption) ?_ | with_reducible refine choF (by assumption) ?_ | with_reducible refine choF' (by assumption) ?_ | (with_reducible refine altT ?_ ?_; first | omega | (simp only [List.length_append, List.length_cons, List.length_nil, List.length_map, List.length_take, List.length_drop, List.length_replicate, List.length_set]; omega)) | with_reducible refine altF ?_ | with_reducible refine all fun _ => ?_ | with_reducible refine both ?_ ?_ | (with_reducible refine choT ?_ ?_; omega) | (with_reducible refine choF ?_ ?_; omega) | with_reducible refine cho (fun _ => ?_) (fun _ => ?_))
        exact ⟨_, _, _, rfl, Sub.tuple (retNil En.av (sz := 4) (by decide) (Sub.app_nil _)), rfl, rfl⟩
    · have e1 : i = L.length := by omega
      subst e1
      rw [List.take_length] at q2
      rw [List.take_length]
      have e : spanC b ⟨d, hd.len⟩ cnt f g lo hi p L path = if spanL b ⟨d, hd.len⟩ cnt lo hi p L path = true then (0, (L.map parseV).filter (inS lo hi)) else (8, []) := by unfold spanC; rw [if_pos hin, if_pos q2]
      rw [e]
      have hml : (L.map parseV).length = L.length := by simp
      generalize hM : L.map parseV = M at *
      have g1 : L.length - 1 < M.length := by omega
      have fin : ∀ (σ : Store), spanL b ⟨d, hd.len⟩ cnt lo hi p L path = false → ∃ u u1 τ, AEnd.ret (AV.tuple [.val (.slice none 0 0), .val (.int .i64 8)]) = .ret u ∧ Sub σ [u] τ [u1] ∧ AEnd.ret u1 = .ret (.tuple [.lst 4 ((if spanL b ⟨d, hd.len⟩ cnt lo hi p L path = true then (0, M.filter (inS lo hi)) else ((8, []) : Nat × List En)).2.map En.av) .ro, I .i64 ((if spanL b ⟨d, hd.len⟩ cnt lo hi p L path = true then (0, M.filter (inS lo hi)) else ((8, []) : Nat × List En)).1 : Nat)]) ∧ τ = [] := by
        intro σ h
        rw [if_neg (by rw [h]; decide)]
        exact ⟨_, _, _, rfl, Sub.tuple (retNil En.av (sz := 4) (by decide) (Sub.app_nil _)), rfl, rfl⟩
      have es : spanL b ⟨d, hd.len⟩ cnt lo hi p L path = (!(!lt (M.getD 0 default).key lo && decide (0 < p)) && (!(belowB (M.getD (L.length - 1) default).key hi && decide (p + L.length < cnt)) && (sorted M && checkR b ⟨d, hd.len⟩ cnt p L path))) := by unfold spanL; rw [hM]
      have hq : cnt ≤ 9223372036854775807 ∧ L.length ≤ 1000000000 ∧ ∀ (b : List UInt8), b ∈ L → b.length ≤ 100000000000000 := ⟨hc, by omega, hb⟩
      by_cases hov : p + L.length ≤ 9223372036854775807
      · repeat' (first | with_reducible apply Stp.go | with_reducible refine imp fun _ => ?_ | (with_reducible refine hyp ?_ ?_; first | assumption | exact leftT_mem (by assumption)) | (with_reducible refine need ?_ ?_; first | trivial | omega | exact ⟨by assumption, by omega⟩ | (simp only [List.length_append, List.length_cons, List.length_nil, List.length_map, List.length_take, List.length_drop, List.length_replicate, List.length_set]; omega)) | (with_reducible refine fact ?_ ?_; first | trivial | exact ⟨rfl, rfl⟩ | kernel_rfl) | with_reducible refine choT (by assumption) ?_ | with_reducible refine choF (by assumption) ?_ | with_reducible refine choF' (by assumption) ?_ | (with_reducible refine altT ?_ ?_; first | omega | (simp only [List.length_append, List.length_cons, List.length_nil, List.length_map, List.length_take, List.length_drop, List.length_replicate, List.length_set]; omega)) | with_reducible refine altF ?_ | with_reducible refine all fun _ => ?_ | with_reducible refine both ?_ ?_ | (with_reducible refine choT ?_ ?_; omega) | (with_reducible refine choF ?_ ?_; omega) | with_reducible refine cho (fun _ => ?_) (fun _ => ?_))
        all_goals first
          | exact fin _ (by rw [es]; simp_all [lt])
          | skip
        all_goals
          refine callBy (args' := [.own v M.length, .fn (.func 56) [] [.rptr [S lo], .rptr [S hi]]]) (σ' := [.row v 54 4 (M.map En.av) 0]) (Sub.trans (Sub.frzVar (b := r1)) (Sub.frzVar (b := r2))) ⟨by omega, by omega⟩ fun l' hl' => ?_
          have hok : spanL b ⟨d, hd.len⟩ cnt lo hi p L path = true := by rw [es]; simp_all [lt]
          rw [if_pos hok]
          dsimp only
          have hk : (M.filter fun e => !!inS lo hi e).length ≤ M.length := List.length_filter_le _ _
          simp only [Bool.not_not] at hk hl'
          have hk2 : (M.filter (inS lo hi)).length ≤ l'.length := by rw [hl'.1]; exact hk
          refine ⟨_, _, _, rfl, Sub.tuple (Sub.cons_sub (σ1 := []) (σ2 := []) (by simpa using hk2) (Sub.refl _ _)), ?_, rfl⟩
          simp only [Bool.not_not]
          rw [List.drop_zero, ← List.map_take, hl'.2]
          rfl
      · have hlow : ∀ (t : TypeId) (K : AV → Prop), Stp (Do (aBin Go.Proofs.Try.prog .add t (.val (.int .i64 p)) (.val (.int .i64 ((L.length : Nat) : Int)))) K) (K (.val (.int .i64 (p + L.length - 18446744073709551616)))) := fun t K => ⟨fun hK => by
          refine s_add ?_
          have : IntKind.wrap .i64 (p + ((L.length : Nat) : Int)) = p + L.length - 18446744073709551616 := by
            simp only [IntKind.wrap, IntKind.bits, IntKind.signed]
            simp
            split <;> omega
          rw [this]
          exact hK⟩
        have hcr : checkR b ⟨d, hd.len⟩ cnt p L path = false := by
          unfold checkR
          rw [decide_eq_false (by omega), Bool.false_and]
        have hff : ¬ (false : Bool) = true := by decide
        have hlt2 : p + L.length - 18446744073709551616 < cnt := by omega
        repeat' (first | with_reducible apply Stp.go | with_reducible refine imp fun _ => ?_ | (with_reducible refine hyp ?_ ?_; first | assumption | exact leftT_mem (by assumption)) | (with_reducible refine need ?_ ?_; first | trivial | omega | exact ⟨by assumption, by omega⟩ | (simp only [List.length_append, List.length_cons, List.length_nil, List.length_map, List.length_take, List.length_drop, List.length_replicate, List.length_set]; omega)) | (with_reducible refine fact ?_ ?_; first | trivial | exact ⟨rfl, rfl⟩ | kernel_rfl) | with_reducible refine choT (by assumption) ?_ | with_reducible refine choF (by assumption) ?_ | with_reducible refine choF' (by assumption) ?_ | (with_reducible refine altT ?_ ?_; first | omega | (simp only [List.length_append, List.length_cons, List.length_nil, List.length_map, List.length_take, List.length_drop, List.length_replicate, List.length_set]; omega)) | with_reducible refine altF ?_ | with_reducible refine all fun _ => ?_ | with_reducible refine both ?_ ?_ | (with_reducible refine choT ?_ ?_; omega) | (with_reducible refine choF ?_ ?_; omega) | with_reducible refine cho (fun _ => ?_) (fun _ => ?_))
        all_goals exact fin _ (by rw [es, hcr]; simp)
instance {b lev cnt : Int} {d f g lo hi : List UInt8} [hd : Len32 d] {p : Int} {L : List (List UInt8)} {path : List D32} : PC Go.Proofs.Try.prog 26 [trA b, tabA lev cnt d f g, S lo, S hi, spA p L path] (cnt ≤ 9223372036854775807 ∧ L.length ≤ 1000000 ∧ ∀ b ∈ L, b.length ≤ 100000000000000) (.tuple [.lst 4 ((spanC b ⟨d, hd.len⟩ cnt f g lo hi p L path).2.map En.av) .ro, I .i64 ((spanC b ⟨d, hd.len⟩ cnt f g lo hi p L path).1 : Nat)]) := ⟨fun hl => PC.of (CheckSpan_ok b lev cnt d f g lo hi p L path hl.1 hl.2.1 hl.2.2)⟩
end Go.Ab

/- Layer 12: few entries; those that are right, folded. -/
set_option linter.unusedVariables false
set_option linter.unusedSimpArgs false
namespace Go.Ab
def law12_few.mark : Mark := ⟨fun t => false, fun t => false, fun t => false, fun t => Nat.beq t 22, fun t => false⟩
def law12_few.ann : Ann := ⟨fun n => bif Nat.beq n 3 then [0, 1, 5, 6] else [], fun n => none, fun n => none⟩
/-- 'marlstone/marlstonelaw12.few' -/
def law12_few.sh (a0 a1 : AV) (σ : Store) (Q : AEnd → Store → Prop) : Prop :=
  aLoop (fun go vs σ =>
    At vs 0 fun s0 => At vs 1 fun s1 => At vs 2 fun s5 => At vs 3 fun s6 => Do (aBuiltin Go.Proofs.Try.prog .len #[22] [s0]) fun t10 =>
    Do (aBin Go.Proofs.Try.prog .lss 3 s6 t10) fun t11 =>
    Do (aGuard t11 true (aIs s6)) fun t13 =>
    Do (aGuard t11 true (aIs s1)) fun t14 =>
    Do (aGuard t11 true (aBin Go.Proofs.Try.prog .lss 3 t13 t14)) fun t15 =>
    Do (aPick t11 t15 (.val (.bool false))) fun t16 =>
    aCond t16
      (Do (aIndexAddr .slice 4 s0 s6) fun t21 =>
    Do (loadF true 4 t21) fun t22 =>
    aNewVar 54 [.val (.string ⟨#[]⟩), .val (.string ⟨#[]⟩), .val (.bool false), .val (.int .i64 0)] σ fun t7 σ_1 =>
    storeA 4 t7 t22 σ_1 fun u σ_2 =>
    Do (aFieldAddr 0 1 t7) fun t23 =>
    Do (loadA false 1 t23 σ_2) fun t24 =>
    Do (aFieldAddr 0 1 t7) fun t25 =>
    Do (loadA false 1 t25 σ_2) fun t26 =>
    Do (aBuiltin Go.Proofs.Try.prog .len #[9] [t26]) fun t27 =>
    Do (aBuiltin Go.Proofs.Try.prog .min #[3, 3] [t27, (.val (.int .i64 130))]) fun t28 =>
    Do (aSlice .string 1 t24 none (some t28) none) fun t29 =>
    Do (aFieldAddr 0 1 t7) fun t30 =>
    storeA 1 t30 t29 σ_2 fun u_1 σ_3 =>
    Do (aFieldAddr 1 1 t7) fun t31 =>
    Do (loadA false 1 t31 σ_3) fun t32 =>
    Do (aFieldAddr 1 1 t7) fun t33 =>
    Do (loadA false 1 t33 σ_3) fun t34 =>
    Do (aBuiltin Go.Proofs.Try.prog .len #[9] [t34]) fun t35 =>
    Do (aBuiltin Go.Proofs.Try.prog .min #[3, 3] [t35, (.val (.int .i64 1030))]) fun t36 =>
    Do (aSlice .string 1 t32 none (some t36) none) fun t37 =>
    Do (aFieldAddr 1 1 t7) fun t38 =>
    storeA 1 t38 t37 σ_3 fun u_2 σ_4 =>
    Do (loadA true 4 t7 σ_4) fun t40 =>
    Do (aSlLit (mkE [.val (.string ⟨#[]⟩), .val (.string ⟨#[]⟩), .val (.bool false), .val (.int .i64 0)]) 4 1 [(0, t40)]) fun t41 =>
    aAppend 54 4 48 s5 t41 σ_4 (subK fun t42 σ_5 =>
    Do (aBin Go.Proofs.Try.prog .add 3 s6 (.val (.int .i64 1))) fun t18 =>
    go [s0, s1, t42, t18] σ_5))
      (Q (.ret s5) σ))
    [a0, a1, (.val (.slice none 0 0)), (.val (.int .i64 0))] σ
theorem law12_few.eq (a0 a1 : AV) (σ : Store) (Q : AEnd → Store → Prop) : vc (semOf Go.Proofs.Try.prog law12_few.mark) Go.Proofs.Try.f11.ntmps law12_few.ann (bodyOf Go.Proofs.Try.f11) (endK [.tmp 4] Q) (argFr [a0, a1]) σ = law12_few.sh a0 a1 σ Q := by kernel_rfl
theorem law12_few.go {a0 a1 : AV} {σ : Store} {Q : AEnd → Store → Prop} (h : law12_few.sh a0 a1 σ Q) : ACalls Go.Proofs.Try.prog 11 [a0, a1] σ Q :=
  acalls_of_eq [.tmp 4] Go.Proofs.Try.func11 (by kernel_rfl) (by kernel_rfl) (by kernel_rfl) (by kernel_rfl) (law12_few.eq a0 a1 σ Q) h
def law12_fit.mark : Mark := ⟨fun t => Nat.beq t 7 || Nat.beq t 8 || Nat.beq t 24, fun t => false, fun t => false, fun t => Nat.beq t 23 || Nat.beq t 29, fun t => false⟩
def law12_fit.ann : Ann := ⟨fun n => bif Nat.beq n 4 then [3, 4, 5] else [], fun n => none, fun n => none⟩
/-- 'marlstone/marlstonelaw12.fit' -/
def law12_fit.sh (a0 : AV) (σ : Store) (Q : AEnd → Store → Prop) : Prop :=
  Do (aPureC Go.Proofs.Try.prog 11 [a0, (.val (.int .i64 70))]) fun t7 =>
  Do (aPureC Go.Proofs.Try.prog 60 [t7]) fun t8 =>
  aLoop (fun go vs σ =>
    At vs 0 fun s3 => At vs 1 fun s4 => At vs 2 fun s5 => Do (aBuiltin Go.Proofs.Try.prog .len #[22] [s4]) fun t11 =>
    Do (aBin Go.Proofs.Try.prog .lss 3 s5 t11) fun t12 =>
    Do (aGuard t12 true (aIs s3)) fun t14 =>
    Do (aGuard t12 true (aBuiltin Go.Proofs.Try.prog .len #[22] [t14])) fun t15 =>
    Do (aGuard t12 true (aBin Go.Proofs.Try.prog .lss 3 t15 (.val (.int .i64 64)))) fun t16 =>
    Do (aPick t12 t16 (.val (.bool false))) fun t17 =>
    aCond t17
      (Do (aIndexAddr .slice 4 s4 s5) fun t22 =>
    Do (loadF true 4 t22) fun t23 =>
    Do (aPureC Go.Proofs.Try.prog 61 [t23]) fun t24 =>
    aCond t24
      (Do (aIndexAddr .slice 4 s4 s5) fun t28 =>
      Do (loadF true 4 t28) fun t29 =>
      Do (aSlLit (mkE [.val (.string ⟨#[]⟩), .val (.string ⟨#[]⟩), .val (.bool false), .val (.int .i64 0)]) 4 1 [(0, t29)]) fun t30 =>
      aAppend 54 4 48 s3 t30 σ (subK fun t31 σ_1 =>
      Do (aBin Go.Proofs.Try.prog .add 3 s5 (.val (.int .i64 1))) fun t19 =>
    go [t31, s4, t19] σ_1))
      (Do (aBin Go.Proofs.Try.prog .add 3 s5 (.val (.int .i64 1))) fun t19_1 =>
    go [s3, s4, t19_1] σ))
      (Q (.ret s3) σ))
    [(.val (.slice none 0 0)), t8, (.val (.int .i64 0))] σ
theorem law12_fit.eq (a0 : AV) (σ : Store) (Q : AEnd → Store → Prop) : vc (semOf Go.Proofs.Try.prog law12_fit.mark) Go.Proofs.Try.f29.ntmps law12_fit.ann (bodyOf Go.Proofs.Try.f29) (endK [.tmp 2] Q) (argFr [a0]) σ = law12_fit.sh a0 σ Q := by kernel_rfl
theorem law12_fit.go {a0 : AV} {σ : Store} {Q : AEnd → Store → Prop} (h : law12_fit.sh a0 σ Q) : ACalls Go.Proofs.Try.prog 29 [a0] σ Q :=
  acalls_of_eq [.tmp 2] Go.Proofs.Try.func29 (by kernel_rfl) (by kernel_rfl) (by kernel_rfl) (by kernel_rfl) (law12_fit.eq a0 σ Q) h
theorem few12_ok (l : List En) (m : SM) (k : Nat) (hl : l.length ≤ 100000000000000) (hk : k ≤ 1000) : aPure Go.Proofs.Try.prog 11 [.lst 4 (l.map En.av) m, I .i64 (k : Nat)] (.lst 4 (((l.take k).map (cutE 130 1030)).map En.av) .ro) := by
  refine ACalls.fin (law12_few.go ?_)
  unfold law12_few.sh
  repeat' (first | with_reducible apply Stp.go | with_reducible refine imp fun _ => ?_ | (with_reducible refine hyp ?_ ?_; first | assumption | exact leftT_mem (by assumption)) | (with_reducible refine need ?_ ?_; first | trivial | omega | exact ⟨by assumption, by omega⟩ | (simp only [List.length_append, List.length_cons, List.length_nil, List.length_map, List.length_take, List.length_drop, List.length_replicate, List.length_set]; omega)) | (with_reducible refine fact ?_ ?_; first | trivial | exact ⟨rfl, rfl⟩ | kernel_rfl) | with_reducible refine choT (by assumption) ?_ | with_reducible refine choF (by assumption) ?_ | with_reducible refine choF' (by assumption) ?_ | (with_reducible refine altT ?_ ?_; first | omega | (simp only [List.length_append, List.length_cons, List.length_nil, List.length_map, List.length_take, List.length_drop, List.length_replicate, List.length_set]; omega)) | with_reducible refine altF ?_ | with_reducible refine all fun _ => ?_ | with_reducible refine both ?_ ?_ | (with_reducible refine choT ?_ ?_; omega) | (with_reducible refine choF ?_ ?_; omega) | with_reducible refine cho (fun _ => ?_) (fun _ => ?_))
  refine loopI (β := Nat × Value) (fun x => x.1 ≤ l.length ∧ x.1 ≤ k) (fun x => [.lst 4 (l.map En.av) m, I .i64 (k : Nat), .own x.2 x.1, I .i64 (x.1 : Nat)]) (fun x => [.row x.2 54 4 (((l.take x.1).map (cutE 130 1030)).map En.av) 0]) (fun x => k - x.1) (0, _) ⟨Nat.zero_le _, Nat.zero_le _⟩ (Sub.nil_own 54 (by decide) _ [_, _] [_]) ?_
  rintro ⟨i, v⟩ ⟨h1, h2⟩
  dsimp only at h1 h2 ⊢
  repeat' (first | with_reducible apply Stp.go | with_reducible refine imp fun _ => ?_ | (with_reducible refine hyp ?_ ?_; first | assumption | exact leftT_mem (by assumption)) | (with_reducible refine need ?_ ?_; first | trivial | omega | exact ⟨by assumption, by omega⟩ | (simp only [List.length_append, List.length_cons, List.length_nil, List.length_map, List.length_take, List.length_drop, List.length_replicate, List.length_set]; omega)) | (with_reducible refine fact ?_ ?_; first | trivial | exact ⟨rfl, rfl⟩ | kernel_rfl) | with_reducible refine choT (by assumption) ?_ | with_reducible refine choF (by assumption) ?_ | with_reducible refine choF' (by assumption) ?_ | (with_reducible refine altT ?_ ?_; first | omega | (simp only [List.length_append, List.length_cons, List.length_nil, List.length_map, List.length_take, List.length_drop, List.length_replicate, List.length_set]; omega)) | with_reducible refine altF ?_ | with_reducible refine all fun _ => ?_ | with_reducible refine both ?_ ?_ | (with_reducible refine choT ?_ ?_; omega) | (with_reducible refine choF ?_ ?_; omega) | with_reducible refine cho (fun _ => ?_) (fun _ => ?_))
  · rename_i w
    refine again (i + 1, w) (by dsimp only; omega) ⟨by dsimp only; omega, by dsimp only; omega⟩ ?_
    have e : (l.take (i + 1)).map (cutE 130 1030) = (l.take i).map (cutE 130 1030) ++ [cutE 130 1030 (l.getD i default)] := by rw [take_succ_d (by omega), List.map_append]; rfl
    have en : ((l.take i).map (cutE 130 1030)).length = i := by simp; omega
    dsimp only
    rw [e, List.length_append, en, take_minN, take_minN]
    exact Sub.drop_ (List.sublist_cons_self _ _) _
  · have e : i = min l.length k := by omega
    refine ⟨_, _, _, rfl, retOwn (Sub.refl _ _), ?_, rfl⟩
    rw [e, take_minN]
  · have e : i = min l.length k := by omega
    refine ⟨_, _, _, rfl, retOwn (Sub.refl _ _), ?_, rfl⟩
    rw [e, take_minN]
instance {a : AV} {l : List En} {m : SM} {k : Nat} {x : Int} [h : IsL a En.av 4 l m] [hk : NatOf x k] : PC Go.Proofs.Try.prog 11 [a, .val (.int .i64 x)] (l.length ≤ 100000000000000 ∧ k ≤ 1000) (.lst 4 (((l.take k).map (cutE 130 1030)).map En.av) .ro) := ⟨fun hl => by rw [hk.eq]; exact ⟨[.lst 4 (l.map En.av) m, I .i64 (k : Nat)], ⟨h.sub, SubVs.refl _⟩, few12_ok l m k hl.1 hl.2⟩⟩
theorem fit12_ok (l : List En) (m : SM) (hl : l.length ≤ 100000000000000) : aPure Go.Proofs.Try.prog 29 [.lst 4 (l.map En.av) m] (.lst 4 ((fitL ((l.take 70).map (cutE 130 1030))).map En.av) .ro) := by
  refine ACalls.fin (law12_fit.go ?_)
  unfold law12_fit.sh
  obtain ⟨L, hL⟩ : ∃ L, L = (l.take 70).map (cutE 130 1030) := ⟨_, rfl⟩
  have h70 : L.length ≤ 70 := by rw [hL]; simp; omega
  have hf := foldE_length L
  repeat' (first | with_reducible apply Stp.go | with_reducible refine imp fun _ => ?_ | (with_reducible refine hyp ?_ ?_; first | assumption | exact leftT_mem (by assumption)) | (with_reducible refine need ?_ ?_; first | trivial | omega | exact ⟨by assumption, by omega⟩ | (simp only [List.length_append, List.length_cons, List.length_nil, List.length_map, List.length_take, List.length_drop, List.length_replicate, List.length_set]; omega)) | (with_reducible refine fact ?_ ?_; first | trivial | exact ⟨rfl, rfl⟩ | kernel_rfl) | with_reducible refine choT (by assumption) ?_ | with_reducible refine choF (by assumption) ?_ | with_reducible refine choF' (by assumption) ?_ | (with_reducible refine altT ?_ ?_; first | omega | (simp only [List.length_append, List.length_cons, List.length_nil, List.length_map, List.length_take, List.length_drop, List.length_replicate, List.length_set]; omega)) | with_reducible refine altF ?_ | with_reducible refine all fun _ => ?_ | with_reducible refine both ?_ ?_ | (with_reducible refine choT ?_ ?_; omega) | (with_reducible refine choF ?_ ?_; omega) | with_reducible refine cho (fun _ => ?_) (fun _ => ?_))
  rw [← hL] at *
  unfold fitL
  generalize foldE L = F at *
  refine loopI (β := Nat × Value) (fun x => x.1 ≤ F.length ∧ ((F.take x.1).filter right).length ≤ 64) (fun x => [.own x.2 ((F.take x.1).filter right).length, .lst 4 (F.map En.av) .ro, I .i64 (x.1 : Nat)]) (fun x => [.row x.2 54 4 (((F.take x.1).filter right).map En.av) 0]) (fun x => F.length - x.1) (0, .slice none 0 0) ⟨Nat.zero_le _, by simp⟩ (Sub.nil_own 54 (by decide) _ [] [_, _]) ?_
  rintro ⟨i, v⟩ ⟨hi, h64⟩
  dsimp only at hi h64 ⊢
  have hfin : (i = F.length ∨ ((F.take i).filter right).length = 64) → (F.filter right).take 64 = (F.take i).filter right := by
    intro h
    have hs : F.filter right = (F.take i).filter right ++ (F.drop i).filter right := by rw [← List.filter_append, List.take_append_drop]
    rw [hs]
    rcases h with h | h
    · rw [h, List.drop_length, List.filter_nil, List.append_nil, List.take_of_length_le (by rw [← h]; exact h64)]
    · rw [List.take_append_of_le_length (by omega), List.take_of_length_le (by omega)]
  by_cases hlt : i < F.length
  · have hs : (F.take (i + 1)).filter right = (F.take i).filter right ++ (if right (F.getD i default) = true then [F.getD i default] else []) := by
      rw [take_succ_d hlt, List.filter_append]
      generalize F.getD i default = y
      by_cases hy : right y = true <;> simp [hy]
    by_cases hc : ((F.take i).filter right).length < 64
    · repeat' (first | with_reducible apply Stp.go | with_reducible refine imp fun _ => ?_ | (with_reducible refine hyp ?_ ?_; first | assumption | exact leftT_mem (by assumption)) | (with_reducible refine need ?_ ?_; first | trivial | omega | exact ⟨by assumption, by omega⟩ | (simp only [List.length_append, List.length_cons, List.length_nil, List.length_map, List.length_take, List.length_drop, List.length_replicate, List.length_set]; omega)) | (with_reducible refine fact ?_ ?_; first | trivial | exact ⟨rfl, rfl⟩ | kernel_rfl) | with_reducible refine choT (by assumption) ?_ | with_reducible refine choF (by assumption) ?_ | with_reducible refine choF' (by assumption) ?_ | (with_reducible refine altT ?_ ?_; first | omega | (simp only [List.length_append, List.length_cons, List.length_nil, List.length_map, List.length_take, List.length_drop, List.length_replicate, List.length_set]; omega)) | with_reducible refine altF ?_ | with_reducible refine all fun _ => ?_ | with_reducible refine both ?_ ?_ | (with_reducible refine choT ?_ ?_; omega) | (with_reducible refine choF ?_ ?_; omega) | with_reducible refine cho (fun _ => ?_) (fun _ => ?_))
      · rename_i hr w
        rw [if_pos hr] at hs
        refine again (i + 1, w) (by dsimp only; omega) ⟨by dsimp only; omega, ?_⟩ ?_
        · dsimp only
          rw [hs, List.length_append]
          simp only [List.length_cons, List.length_nil]
          omega
        · dsimp only
          rw [hs]
          exact Sub.refl _ _
      · rename_i hr
        rw [if_neg hr, List.append_nil] at hs
        refine again (i + 1, v) (by dsimp only; omega) ⟨by dsimp only; omega, ?_⟩ ?_
        · dsimp only
          rw [hs]
          exact h64
        · dsimp only
          rw [hs]
          exact Sub.refl _ _
    · rw [hfin (.inr (by omega))]
      repeat' (first | with_reducible apply Stp.go | with_reducible refine imp fun _ => ?_ | (with_reducible refine hyp ?_ ?_; first | assumption | exact leftT_mem (by assumption)) | (with_reducible refine need ?_ ?_; first | trivial | omega | exact ⟨by assumption, by omega⟩ | (simp only [List.length_append, List.length_cons, List.length_nil, List.length_map, List.length_take, List.length_drop, List.length_replicate, List.length_set]; omega)) | (with_reducible refine fact ?_ ?_; first | trivial | exact ⟨rfl, rfl⟩ | kernel_rfl) | with_reducible refine choT (by assumption) ?_ | with_reducible refine choF (by assumption) ?_ | with_reducible refine choF' (by assumption) ?_ | (with_reducible refine altT ?_ ?_; first | omega | (simp only [List.length_append, List.length_cons, List.length_nil, List.length_map, List.length_take, List.length_drop, List.length_replicate, List.length_set]; omega)) | with_reducible refine altF ?_ | with_reducible refine all fun _ => ?_ | with_reducible refine both ?_ ?_ | (with_reducible refine choT ?_ ?_; omega) | (with_reducible refine choF ?_ ?_; omega) | with_reducible refine cho (fun _ => ?_) (fun _ => ?_))
      exact ⟨_, _, _, rfl, retOwn (Sub.refl _ _), rfl, rfl⟩
  · rw [hfin (.inl (by omega))]
    repeat' (first | with_reducible apply Stp.go | with_reducible refine imp fun _ => ?_ | (with_reducible refine hyp ?_ ?_; first | assumption | exact leftT_mem (by assumption)) | (with_reducible refine need ?_ ?_; first | trivial | omega | exact ⟨by assumption, by omega⟩ | (simp only [List.length_append, List.length_cons, List.length_nil, List.length_map, List.length_take, List.length_drop, List.length_replicate, List.length_set]; omega)) | (with_reducible refine fact ?_ ?_; first | trivial | exact ⟨rfl, rfl⟩ | kernel_rfl) | with_reducible refine choT (by assumption) ?_ | with_reducible refine choF (by assumption) ?_ | with_reducible refine choF' (by assumption) ?_ | (with_reducible refine altT ?_ ?_; first | omega | (simp only [List.length_append, List.length_cons, List.length_nil, List.length_map, List.length_take, List.length_drop, List.length_replicate, List.length_set]; omega)) | with_reducible refine altF ?_ | with_reducible refine all fun _ => ?_ | with_reducible refine both ?_ ?_ | (with_reducible refine choT ?_ ?_; omega) | (with_reducible refine choF ?_ ?_; omega) | with_reducible refine cho (fun _ => ?_) (fun _ => ?_))
    exact ⟨_, _, _, rfl, retOwn (Sub.refl _ _), rfl, rfl⟩
end Go.Ab

/- Layer 12: what is shown in any case; SeekOther. -/
set_option linter.unusedVariables false
set_option linter.unusedSimpArgs false
namespace Go.Ab
def law12_shown.mark : Mark := ⟨fun t => Nat.beq t 21 || Nat.beq t 27 || Nat.beq t 33 || Nat.beq t 39 || Nat.beq t 46, fun t => false, fun t => false, fun t => false, fun t => false⟩
def law12_shown.ann : Ann := ⟨fun n => [], fun n => none, fun n => none⟩
/-- 'marlstone/marlstonelaw12.shown' -/
def law12_shown.sh (σ : Store) (Q : AEnd → Store → Prop) : Prop :=
  Do (aLit [.val (.int .i64 0)] [(0, 1)] [(0, (.val (.int .i64 256)))]) fun t14 =>
  aNewVar 26 [.val (.int .i64 0)] σ fun t1 σ =>
  storeA 1 t1 t14 σ fun u σ_1 =>
  Do (aLit [.val (.string ⟨#[]⟩), .val (.string ⟨#[]⟩), .val (.bool false), .val (.int .i64 0)] [(0, 1), (1, 1), (2, 1), (3, 1)] [(0, (.val (.string ⟨#[97]⟩))), (3, (.val (.int .i64 1)))]) fun t15 =>
  Do (aLit [.val (.string ⟨#[]⟩), .val (.string ⟨#[]⟩), .val (.bool false), .val (.int .i64 0)] [(0, 1), (1, 1), (2, 1), (3, 1)] [(0, (.val (.string ⟨#[99]⟩))), (3, (.val (.int .i64 2)))]) fun t16 =>
  Do (aSlLit (mkE [.val (.string ⟨#[]⟩), .val (.string ⟨#[]⟩), .val (.bool false), .val (.int .i64 0)]) 4 2 [(0, t15), (1, t16)]) fun t17 =>
  Do (loadA true 1 t1 σ_1) fun t19 =>
  Do (aPureC Go.Proofs.Try.prog 12 [t19, t17, (.val (.string ⟨#[98]⟩))]) fun t21 =>
  Do (aExt t21 0) fun t22 =>
  Do (aExt t21 1) fun t23 =>
  aNewVar 32 [.val (.bool false), .val (.int .i64 0), .val (.slice none 0 0), .val (.slice none 0 0), .val (.int .i64 0), .val (.slice none 0 0), .val (.slice none 0 0)] σ_1 fun t3 σ_2 =>
  storeA 7 t3 t22 σ_2 fun u_1 σ_3 =>
  Do (loadA true 1 t1 σ_3) fun t25 =>
  Do (aPureC Go.Proofs.Try.prog 12 [t25, t17, (.val (.string ⟨#[99]⟩))]) fun t27 =>
  Do (aExt t27 0) fun t28 =>
  Do (aExt t27 1) fun t29 =>
  aNewVar 32 [.val (.bool false), .val (.int .i64 0), .val (.slice none 0 0), .val (.slice none 0 0), .val (.int .i64 0), .val (.slice none 0 0), .val (.slice none 0 0)] σ_3 fun t5 σ_4 =>
  storeA 7 t5 t28 σ_4 fun u_2 σ_5 =>
  Do (loadA true 1 t1 σ_5) fun t31 =>
  Do (aPureC Go.Proofs.Try.prog 12 [t31, t17, (.val (.string ⟨#[100]⟩))]) fun t33 =>
  Do (aExt t33 0) fun t34 =>
  Do (aExt t33 1) fun t35 =>
  aNewVar 32 [.val (.bool false), .val (.int .i64 0), .val (.slice none 0 0), .val (.slice none 0 0), .val (.int .i64 0), .val (.slice none 0 0), .val (.slice none 0 0)] σ_5 fun t7 σ_6 =>
  storeA 7 t7 t34 σ_6 fun u_3 σ_7 =>
  Do (loadA true 1 t1 σ_7) fun t37 =>
  Do (aPureC Go.Proofs.Try.prog 30 [t37, (.val (.int .i64 0)), t17]) fun t39 =>
  Do (aExt t39 0) fun t40 =>
  Do (aExt t39 1) fun t41 =>
  aNewVar 48 [.val (.int .i64 0), .val (.int .i64 0), .val (.int .u8 0), .val (.int .u8 0), .val (.int .u8 0), .val (.int .u8 0), .val (.int .u8 0), .val (.int .u8 0), .val (.int .u8 0), .val (.int .u8 0), .val (.int .u8 0), .val (.int .u8 0), .val (.int .u8 0), .val (.int .u8 0), .val (.int .u8 0), .val (.int .u8 0), .val (.int .u8 0), .val (.int .u8 0), .val (.int .u8 0), .val (.int .u8 0), .val (.int .u8 0), .val (.int .u8 0), .val (.int .u8 0), .val (.int .u8 0), .val (.int .u8 0), .val (.int .u8 0), .val (.int .u8 0), .val (.int .u8 0), .val (.int .u8 0), .val (.int .u8 0), .val (.int .u8 0), .val (.int .u8 0), .val (.int .u8 0), .val (.int .u8 0), .val (.string ⟨#[]⟩), .val (.string ⟨#[]⟩)] σ_7 fun t9 σ_8 =>
  storeA 36 t9 t40 σ_8 fun u_4 σ_9 =>
  Do (loadA true 1 t1 σ_9) fun t43 =>
  Do (loadA true 36 t9 σ_9) fun t44 =>
  Do (loadA true 7 t5 σ_9) fun t45 =>
  Do (aPureC Go.Proofs.Try.prog 23 [t43, t44, (.val (.string ⟨#[99]⟩)), t45]) fun t46 =>
  Do (aExt t46 0) fun t47 =>
  Do (aExt t46 1) fun t48 =>
  Do (aExt t46 2) fun t49 =>
  aNewVar 54 [.val (.string ⟨#[]⟩), .val (.string ⟨#[]⟩), .val (.bool false), .val (.int .i64 0)] σ_9 fun t11 σ_10 =>
  storeA 4 t11 t47 σ_10 fun u_5 σ_11 =>
  Do (aFieldAddr 0 1 t3) fun t50 =>
  Do (loadA false 1 t50 σ_11) fun t51 =>
  Do (aGuard t51 true (aFieldAddr 1 3 t3)) fun t53 =>
  Do (aGuard t51 true (aFieldAddr 0 1 t53)) fun t54 =>
  Do (aGuard t51 true (loadA false 1 t54 σ_11)) fun t55 =>
  Do (aGuard t51 true (aBin Go.Proofs.Try.prog .eql 3 t55 (.val (.int .i64 0)))) fun t56 =>
  Do (aPick t51 t56 (.val (.bool false))) fun t57 =>
  Do (aGuard t57 true (aFieldAddr 4 3 t3)) fun t59 =>
  Do (aGuard t57 true (aFieldAddr 0 1 t59)) fun t60 =>
  Do (aGuard t57 true (loadA false 1 t60 σ_11)) fun t61 =>
  Do (aGuard t57 true (aBin Go.Proofs.Try.prog .eql 3 t61 (.val (.int .i64 1)))) fun t62 =>
  Do (aPick t57 t62 (.val (.bool false))) fun t63 =>
  Do (aGuard t63 true (aIs t23)) fun t65 =>
  Do (aGuard t63 true (aBin Go.Proofs.Try.prog .eql 33 t65 (.val (.int .i64 0)))) fun t66 =>
  Do (aPick t63 t66 (.val (.bool false))) fun t67 =>
  Do (aGuard t67 true (aFieldAddr 0 1 t5)) fun t69 =>
  Do (aGuard t67 true (loadA false 1 t69 σ_11)) fun t70 =>
  Do (aGuard t67 true (aUn Go.Proofs.Try.prog .not t70)) fun t71 =>
  Do (aPick t67 t71 (.val (.bool false))) fun t72 =>
  Do (aGuard t72 true (aFieldAddr 1 3 t5)) fun t74 =>
  Do (aGuard t72 true (aFieldAddr 0 1 t74)) fun t75 =>
  Do (aGuard t72 true (loadA false 1 t75 σ_11)) fun t76 =>
  Do (aGuard t72 true (aBin Go.Proofs.Try.prog .eql 3 t76 (.val (.int .i64 1)))) fun t77 =>
  Do (aPick t72 t77 (.val (.bool false))) fun t78 =>
  Do (aGuard t78 true (aIs t29)) fun t80 =>
  Do (aGuard t78 true (aBin Go.Proofs.Try.prog .eql 33 t80 (.val (.int .i64 0)))) fun t81 =>
  Do (aPick t78 t81 (.val (.bool false))) fun t82 =>
  Do (aGuard t82 true (aIs t35)) fun t84 =>
  Do (aGuard t82 true (aBin Go.Proofs.Try.prog .eql 33 t84 (.val (.int .i64 5)))) fun t85 =>
  Do (aPick t82 t85 (.val (.bool false))) fun t86 =>
  Do (aGuard t86 true (aIs t48)) fun t88 =>
  Do (aPick t86 t88 (.val (.bool false))) fun t89 =>
  Do (aGuard t89 true (aFieldAddr 3 1 t11)) fun t91 =>
  Do (aGuard t89 true (loadA false 1 t91 σ_11)) fun t92 =>
  Do (aGuard t89 true (aBin Go.Proofs.Try.prog .eql 3 t92 (.val (.int .i64 2)))) fun t93 =>
  Do (aPick t89 t93 (.val (.bool false))) fun t94 =>
  Do (aGuard t94 true (aIs t49)) fun t96 =>
  Do (aGuard t94 true (aBin Go.Proofs.Try.prog .eql 33 t96 (.val (.int .i64 0)))) fun t97 =>
  Do (aPick t94 t97 (.val (.bool false))) fun t98 =>
  Q (.ret t98) σ_11
theorem law12_shown.eq (σ : Store) (Q : AEnd → Store → Prop) : vc (semOf Go.Proofs.Try.prog law12_shown.mark) Go.Proofs.Try.f10.ntmps law12_shown.ann (bodyOf Go.Proofs.Try.f10) (endK [.tmp 0] Q) (argFr []) σ = law12_shown.sh  σ Q := by kernel_rfl
theorem law12_shown.go {σ : Store} {Q : AEnd → Store → Prop} (h : law12_shown.sh  σ Q) : ACalls Go.Proofs.Try.prog 10 [] σ Q :=
  acalls_of_eq [.tmp 0] Go.Proofs.Try.func10 (by kernel_rfl) (by kernel_rfl) (by kernel_rfl) (by kernel_rfl) (law12_shown.eq  σ Q) h
def law12_SeekOther.mark : Mark := ⟨fun t => Nat.beq t 22 || Nat.beq t 24 || Nat.beq t 30 || Nat.beq t 37 || Nat.beq t 49 || Nat.beq t 56 || Nat.beq t 62 || Nat.beq t 70, fun t => false, fun t => false, fun t => false, fun t => false⟩
def law12_SeekOther.ann : Ann := ⟨fun n => [], fun n => none, fun n => none⟩
theorem len_enB (l : List En) (i : Nat) : ((l.map enB).getD i default).length ≤ 100000000000000 := by
  by_cases h : i < l.length
  · rw [getD_mapd enB h]
    have := enB_length (l.getD i default)
    omega
  · rw [List.getD_eq_getElem?_getD, List.getElem?_eq_none (by simpa using Nat.le_of_not_lt h)]
    exact Nat.zero_le _
theorem len_opn (b : Int) (l : List En) (i : Nat) : (opnAt b (l.map enB) i).2.1.length ≤ 100000000000000 := len_enB l i
theorem len_opn0 : opn0.2.1.length ≤ 100000000000000 := Nat.zero_le _
/-- A point of a key there is. -/
theorem seekC_is (b : Int) {l : List En} (hf : fit l = true) (k o : List UInt8) (hk : hasK l k = true) (ho : coversB (l.getD 0 default).key (l.getD (l.length - 1) default).key o = true) :
    seekC b (rootF b (l.map enB)) (l.length : Nat) (l.getD 0 default).key (l.getD (l.length - 1) default).key o false (opnAt b (l.map enB) (placeN l k)) opn0 = if k = o then (0, true, l.getD (placeN l k) default) else (8, false, En.zero) := by
  obtain ⟨_, h0, hs, hr⟩ := fit_right hf
  have hri := (sorted_iff l).1 hs
  obtain ⟨g1, g2⟩ := place_lt hri hk
  obtain ⟨g3, g4⟩ := holds_real b hr g1
  unfold seekC opnAt opn0
  dsimp only
  rw [if_pos ⟨g3, ho⟩, if_neg (by decide), g4, g2]
  by_cases h : k = o
  · rw [if_pos ⟨h, rfl, rfl, rfl⟩, if_pos h]
  · rw [if_neg (fun c => h c.1), if_neg h]
section told
variable {a : AV} {m : SM} {b : Int} {l : List En} {x : Int} {lev : Nat} {k o lo hi : List UInt8}
theorem fit_len (hf : fit l = true) : l.length ≤ 64 := (fit_right hf).1
/-- A table of what is fit. -/
theorem desc_fit [h : IsL a En.av 4 l m] (hx : x = (lev : Nat)) (hf : fit l = true) (hv : lev < 4) : PC Go.Proofs.Try.prog 30 [trA b, .val (.int .i64 x), a] True (.tuple [tabA x (l.length : Nat) (rootD b (l.map enB)) (l.getD 0 default).key (l.getD (l.length - 1) default).key, .val (.int .i64 0)]) := ⟨fun _ => by
  subst hx
  have h64 := fit_len hf
  have hd : dFit lev l = true := by unfold dFit; rw [hf, decide_eq_true hv]; rfl
  have := (inferInstance : PC Go.Proofs.Try.prog 30 [trA b, .val (.int .i64 ((lev : Nat) : Int)), a] _ _).ct ⟨by omega, by omega⟩
  unfold dLev dCnt dRoot dFst dLst dErr at this
  simp only [if_pos hd] at this
  exact this⟩
theorem desc_not [h : IsL a En.av 4 l m] (hx : x = (lev : Nat)) (hl : l.length ≤ 1000000) (hlv : lev ≤ 1000) (hf : ¬ (fit l = true ∧ lev < 4)) : PC Go.Proofs.Try.prog 30 [trA b, .val (.int .i64 x), a] True (.tuple [tabA 0 0 zeroD [] [], .val (.int .i64 1)]) := ⟨fun _ => by
  subst hx
  have hd : ¬ dFit lev l = true := by
    unfold dFit; intro h
    rw [Bool.and_eq_true, decide_eq_true_eq] at h
    exact hf h
  have := (inferInstance : PC Go.Proofs.Try.prog 30 [trA b, .val (.int .i64 ((lev : Nat) : Int)), a] _ _).ct ⟨hl, hlv⟩
  unfold dLev dCnt dRoot dFst dLst dErr at this
  simp only [if_neg hd] at this
  exact this⟩
theorem prove_by [h : IsL a En.av 4 l m] {e : Nat} {bt : Bool} {X Y : Opn} (hl : l.length ≤ 1000000) (hp : proveP b l k = (e, bt, X, Y)) : PC Go.Proofs.Try.prog 12 [trA b, a, S k] True (.tuple [ptA bt X Y, I .i64 (e : Nat)]) := ⟨fun _ => by
  have := (inferInstance : PC Go.Proofs.Try.prog 12 [trA b, a, S k] _ _).ct hl
  rw [hp] at this
  exact this⟩
theorem check_by {d f g : List UInt8} [hd : Len32 d] {lv cnt : Int} {bt i : Bool} {X Y : Opn} {e : Nat} {y : En} (hc : cnt ≤ 9223372036854775807) (h1 : X.2.1.length ≤ 100000000000000) (h2 : Y.2.1.length ≤ 100000000000000) (hp : seekC b ⟨d, hd.len⟩ cnt f g k bt X Y = (e, i, y)) : PC Go.Proofs.Try.prog 23 [trA b, tabA lv cnt d f g, S k, ptA bt X Y] True (.tuple [y.av, B i, I .i64 (e : Nat)]) := ⟨fun _ => by
  have := (inferInstance : PC Go.Proofs.Try.prog 23 [trA b, tabA lv cnt d f g, S k, ptA bt X Y] _ _).ct ⟨hc, h1, h2⟩
  rw [hp] at this
  exact this⟩
theorem prove_is (hf : fit l = true) (hk : hasK l k = true) : proveP b l k = (0, false, opnAt b (l.map enB) (placeN l k), opn0) := by rw [proveP, if_pos hf, if_pos hk]
theorem prove_none (hf : fit l = true) (hk : hasK l k = false) (h : placeN l k = 0 ∨ placeN l k = l.length) : proveP b l k = (5, false, opn0, opn0) := by rw [proveP, if_pos hf, if_neg (by rw [hk]; decide), if_pos h]
theorem prove_gap (hf : fit l = true) (hk : hasK l k = false) (h : ¬ (placeN l k = 0 ∨ placeN l k = l.length)) : proveP b l k = (0, true, opnAt b (l.map enB) (placeN l k - 1), opnAt b (l.map enB) (placeN l k)) := by rw [proveP, if_pos hf, if_neg (by rw [hk]; decide), if_neg h]
end told
theorem shown12_ok : aPure Go.Proofs.Try.prog 10 [] (B true) := by
  refine ACalls.fin (law12_shown.go ?_)
  unfold law12_shown.sh
  have hf : fit [⟨[97], [], false, 1⟩, ⟨[99], [], false, 2⟩] = true := by decide
  have iD : ∀ {a : AV} {m : SM} [h : IsL a En.av 4 [⟨[97], [], false, 1⟩, ⟨[99], [], false, 2⟩] m], PC Go.Proofs.Try.prog 30 [trA 256, .val (.int .i64 0), a] True _ := desc_fit (b := 256) (lev := 0) rfl hf (by decide)
  have p1 := prove_gap (b := 256) (k := [98]) hf (by decide) (by decide)
  have p2 := prove_is (b := 256) (k := [99]) hf (by decide)
  have p3 := seekC_is 256 hf [99] [99] (by decide) (by decide)
  rw [show placeN [⟨[97], [], false, 1⟩, ⟨[99], [], false, 2⟩] [98] = 1 by decide] at p1
  rw [show placeN [⟨[97], [], false, 1⟩, ⟨[99], [], false, 2⟩] [99] = 1 by decide] at p2 p3
  rw [if_pos rfl, show ([⟨[97], [], false, 1⟩, ⟨[99], [], false, 2⟩] : List En).getD 1 default = ⟨[99], [], false, 2⟩ from rfl] at p3
  obtain ⟨X0, hX0⟩ : ∃ X, X = opnAt 256 ([⟨[97], [], false, 1⟩, ⟨[99], [], false, 2⟩].map enB) 0 := ⟨_, rfl⟩
  obtain ⟨X1, hX1⟩ : ∃ X, X = opnAt 256 ([⟨[97], [], false, 1⟩, ⟨[99], [], false, 2⟩].map enB) 1 := ⟨_, rfl⟩
  have l1 : X1.2.1.length ≤ 100000000000000 := by rw [hX1]; exact len_opn _ _ _
  have a0 : X0.1 = 0 := by rw [hX0]; rfl
  have a1 : X1.1 = 1 := by rw [hX1]; rfl
  rw [show (1 : Nat) - 1 = 0 from rfl, ← hX0, ← hX1] at p1
  rw [← hX1] at p2 p3
  have i1 : ∀ {a : AV} {m : SM} [h : IsL a En.av 4 [⟨[97], [], false, 1⟩, ⟨[99], [], false, 2⟩] m], PC Go.Proofs.Try.prog 12 [trA 256, a, S [98]] True _ := prove_by (b := 256) (by decide) p1
  have i2 : ∀ {a : AV} {m : SM} [h : IsL a En.av 4 [⟨[97], [], false, 1⟩, ⟨[99], [], false, 2⟩] m], PC Go.Proofs.Try.prog 12 [trA 256, a, S [99]] True _ := prove_by (b := 256) (by decide) p2
  have i3 : ∀ {a : AV} {m : SM} [h : IsL a En.av 4 [⟨[97], [], false, 1⟩, ⟨[99], [], false, 2⟩] m], PC Go.Proofs.Try.prog 12 [trA 256, a, S [100]] True _ := prove_by (b := 256) (by decide) (prove_none hf (by decide) (by decide))
  have iC := check_by (lv := 0) (b := 256) (h1 := l1) (h2 := len_opn0) (by decide) p3
  repeat' (first | with_reducible apply Stp.go | with_reducible refine imp fun _ => ?_ | (with_reducible refine hyp ?_ ?_; first | assumption | exact leftT_mem (by assumption)) | (with_reducible refine need ?_ ?_; first | trivial | omega | exact ⟨by assumption, by omega⟩ | (simp only [List.length_append, List.length_cons, List.length_nil, List.length_map, List.length_take, List.length_drop, List.length_replicate, List.length_set]; omega)) | (with_reducible refine fact ?_ ?_; first | trivial | exact ⟨rfl, rfl⟩ | kernel_rfl) | with_reducible refine choT (by assumption) ?_ | with_reducible refine choF (by assumption) ?_ | with_reducible refine choF' (by assumption) ?_ | (with_reducible refine altT ?_ ?_; first | omega | (simp only [List.length_append, List.length_cons, List.length_nil, List.length_map, List.length_take, List.length_drop, List.length_replicate, List.length_set]; omega)) | with_reducible refine altF ?_ | with_reducible refine all fun _ => ?_ | with_reducible refine both ?_ ?_ | (with_reducible refine choT ?_ ?_; omega) | (with_reducible refine choF ?_ ?_; omega) | with_reducible refine cho (fun _ => ?_) (fun _ => ?_))
  all_goals first
    | exact ⟨_, _, _, rfl, Sub.app_nil _, rfl, rfl⟩
    | contradiction
instance : PC Go.Proofs.Try.prog 10 [] True (B true) := ⟨fun _ => PC.of shown12_ok⟩
end Go.Ab

/- What is proved of some keys is checked; SeekWhole. -/
set_option linter.unusedVariables false
set_option linter.unusedSimpArgs false
namespace Go.Ab
def law12_SeekWhole.mark : Mark := ⟨fun t => Nat.beq t 14 || Nat.beq t 16 || Nat.beq t 22 || Nat.beq t 31 || Nat.beq t 38, fun t => false, fun t => false, fun t => Nat.beq t 82 || Nat.beq t 86, fun t => false⟩
def law12_SeekWhole.ann : Ann := ⟨fun n => bif Nat.beq n 12 then [0, 5, 11, 13] else [], fun n => none, fun n => none⟩
/-- 'marlstone/marlstonelaw12.SeekWhole' -/
def law12_SeekWhole.sh (a0 a1 : AV) (σ : Store) (Q : AEnd → Store → Prop) : Prop :=
  Do (aPureC Go.Proofs.Try.prog 10 []) fun t14 =>
  Do (aPureC Go.Proofs.Try.prog 29 [a0]) fun t16 =>
  Do (aLit [.val (.int .i64 0)] [(0, 1)] [(0, a1)]) fun t18 =>
  aNewVar 26 [.val (.int .i64 0)] σ fun t6 σ =>
  storeA 1 t6 t18 σ fun u σ_1 =>
  Do (loadA true 1 t6 σ_1) fun t20 =>
  Do (aPureC Go.Proofs.Try.prog 30 [t20, (.val (.int .i64 2)), t16]) fun t22 =>
  Do (aExt t22 0) fun t23 =>
  Do (aExt t22 1) fun t24 =>
  aNewVar 48 [.val (.int .i64 0), .val (.int .i64 0), .val (.int .u8 0), .val (.int .u8 0), .val (.int .u8 0), .val (.int .u8 0), .val (.int .u8 0), .val (.int .u8 0), .val (.int .u8 0), .val (.int .u8 0), .val (.int .u8 0), .val (.int .u8 0), .val (.int .u8 0), .val (.int .u8 0), .val (.int .u8 0), .val (.int .u8 0), .val (.int .u8 0), .val (.int .u8 0), .val (.int .u8 0), .val (.int .u8 0), .val (.int .u8 0), .val (.int .u8 0), .val (.int .u8 0), .val (.int .u8 0), .val (.int .u8 0), .val (.int .u8 0), .val (.int .u8 0), .val (.int .u8 0), .val (.int .u8 0), .val (.int .u8 0), .val (.int .u8 0), .val (.int .u8 0), .val (.int .u8 0), .val (.int .u8 0), .val (.string ⟨#[]⟩), .val (.string ⟨#[]⟩)] σ_1 fun t7 σ_2 =>
  storeA 36 t7 t23 σ_2 fun u_1 σ_3 =>
  Do (aBin Go.Proofs.Try.prog .neq 33 t24 (.val (.int .i64 0))) fun t26 =>
  aCond t26
    (Q (.ret t14) σ_3)
    (Do (loadA true 1 t6 σ_3) fun t29 =>
  Do (aPureC Go.Proofs.Try.prog 14 [t29, t16, (.val (.string ⟨#[]⟩)), (.val (.string ⟨#[]⟩))]) fun t31 =>
  Do (aExt t31 0) fun t32 =>
  Do (aExt t31 1) fun t33 =>
  aNewVar 39 [.val (.int .i64 0), .val (.slice none 0 0), .val (.slice none 0 0)] σ_3 fun t9 σ_4 =>
  storeA 3 t9 t32 σ_4 fun u_2 σ_5 =>
  Do (loadA true 1 t6 σ_5) fun t35 =>
  Do (loadA true 36 t7 σ_5) fun t36 =>
  Do (loadA true 3 t9 σ_5) fun t37 =>
  Do (aPureC Go.Proofs.Try.prog 26 [t35, t36, (.val (.string ⟨#[]⟩)), (.val (.string ⟨#[]⟩)), t37]) fun t38 =>
  Do (aExt t38 0) fun t39 =>
  Do (aExt t38 1) fun t40 =>
  Do (aBin Go.Proofs.Try.prog .neq 33 t33 (.val (.int .i64 0))) fun t42 =>
  Do (aGuard t42 false (aIs t40)) fun t44 =>
  Do (aGuard t42 false (aBin Go.Proofs.Try.prog .neq 33 t44 (.val (.int .i64 0)))) fun t45 =>
  Do (aPick t42 (.val (.bool true)) t45) fun t46 =>
  Do (aGuard t46 false (aIs t39)) fun t48 =>
  Do (aGuard t46 false (aBuiltin Go.Proofs.Try.prog .len #[22] [t48])) fun t49 =>
  Do (aGuard t46 false (aIs t16)) fun t50 =>
  Do (aGuard t46 false (aBuiltin Go.Proofs.Try.prog .len #[22] [t50])) fun t51 =>
  Do (aGuard t46 false (aBin Go.Proofs.Try.prog .neq 3 t49 t51)) fun t52 =>
  Do (aPick t46 (.val (.bool true)) t52) fun t53 =>
  Do (aGuard t53 false (aFieldAddr 0 1 t9)) fun t55 =>
  Do (aGuard t53 false (loadA false 1 t55 σ_5)) fun t56 =>
  Do (aGuard t53 false (aBin Go.Proofs.Try.prog .neq 3 t56 (.val (.int .i64 0)))) fun t57 =>
  Do (aPick t53 (.val (.bool true)) t57) fun t58 =>
  Do (aGuard t58 false (aFieldAddr 1 1 t9)) fun t60 =>
  Do (aGuard t58 false (loadA false 1 t60 σ_5)) fun t61 =>
  Do (aGuard t58 false (aBuiltin Go.Proofs.Try.prog .len #[37] [t61])) fun t62 =>
  Do (aGuard t58 false (aIs t16)) fun t63 =>
  Do (aGuard t58 false (aBuiltin Go.Proofs.Try.prog .len #[22] [t63])) fun t64 =>
  Do (aGuard t58 false (aBin Go.Proofs.Try.prog .neq 3 t62 t64)) fun t65 =>
  Do (aPick t58 (.val (.bool true)) t65) fun t66 =>
  Do (aGuard t66 false (aFieldAddr 2 1 t9)) fun t68 =>
  Do (aGuard t66 false (loadA false 1 t68 σ_5)) fun t69 =>
  Do (aGuard t66 false (aBuiltin Go.Proofs.Try.prog .len #[28] [t69])) fun t70 =>
  Do (aGuard t66 false (aBin Go.Proofs.Try.prog .neq 3 t70 (.val (.int .i64 0)))) fun t71 =>
  Do (aPick t66 (.val (.bool true)) t71) fun t72 =>
  aCond t72
    (Q (.ret (.val (.bool false))) σ_5)
    (aLoop (fun go vs σ_6 =>
    At vs 0 fun s0 => At vs 1 fun s5 => At vs 2 fun s11 => At vs 3 fun s13 => Do (aBuiltin Go.Proofs.Try.prog .len #[22] [s0]) fun t75 =>
    Do (aBin Go.Proofs.Try.prog .lss 3 s13 t75) fun t76 =>
    aCond t76
      (Do (aIndexAddr .slice 4 s11 s13) fun t81 =>
    Do (loadF true 4 t81) fun t82 =>
    Do (aIndexAddr .slice 4 s0 s13) fun t85 =>
    Do (loadF true 4 t85) fun t86 =>
    Do (aBin Go.Proofs.Try.prog .neq 54 t82 t86) fun t87 =>
    aCond t87
      (Q (.ret (.val (.bool false))) σ_6)
      (Do (aBin Go.Proofs.Try.prog .add 3 s13 (.val (.int .i64 1))) fun t78 =>
    go [s0, s5, s11, t78] σ_6))
      (Q (.ret s5) σ_6))
    [t16, t14, t39, (.val (.int .i64 0))] σ_5))
theorem law12_SeekWhole.eq (a0 a1 : AV) (σ : Store) (Q : AEnd → Store → Prop) : vc (semOf Go.Proofs.Try.prog law12_SeekWhole.mark) Go.Proofs.Try.f7.ntmps law12_SeekWhole.ann (bodyOf Go.Proofs.Try.f7) (endK [.tmp 4] Q) (argFr [a0, a1]) σ = law12_SeekWhole.sh a0 a1 σ Q := by kernel_rfl
theorem law12_SeekWhole.go {a0 a1 : AV} {σ : Store} {Q : AEnd → Store → Prop} (h : law12_SeekWhole.sh a0 a1 σ Q) : ACalls Go.Proofs.Try.prog 7 [a0, a1] σ Q :=
  acalls_of_eq [.tmp 4] Go.Proofs.Try.func7 (by kernel_rfl) (by kernel_rfl) (by kernel_rfl) (by kernel_rfl) (law12_SeekWhole.eq a0 a1 σ Q) h
theorem spanC_real (b : Int) {l : List En} (hf : fit l = true) {lo hi : List UInt8} (hs : spanOk l lo hi = true) :
    spanC b (rootF b (l.map enB)) (l.length : Nat) (l.getD 0 default).key (l.getD (l.length - 1) default).key lo hi (spFrom l lo : Nat) (((l.map enB).take (spTo l hi)).drop (spFrom l lo)) (bsD b (l.map enB) (spFrom l lo : Nat) (spTo l hi : Nat)) = (0, l.filter (inS lo hi)) := by
  obtain ⟨h64, h0, hso, hr⟩ := fit_right hf
  have hri := (sorted_iff l).1 hso
  obtain ⟨g1, g2, g3⟩ := spanOk_lt hri h0 hs
  have hs' := hs
  unfold spanOk at hs'
  simp only [Bool.and_eq_true, Bool.not_eq_true'] at hs'
  obtain ⟨s1, s2, s3⟩ := hs'
  have hl : (((l.map enB).take (spTo l hi)).drop (spFrom l lo)).length = spTo l hi - spFrom l lo := by simp only [List.length_drop, List.length_take, List.length_map]; omega
  have hml : (l.map enB).length = l.length := by simp
  have hget : ∀ j, j < spTo l hi - spFrom l lo → (((l.map enB).take (spTo l hi)).drop (spFrom l lo)).getD j default = (l.map enB).getD (spFrom l lo + j) default := by
    intro j hj
    rw [List.getD_eq_getElem?_getD, List.getD_eq_getElem?_getD, List.getElem?_drop, List.getElem?_take, if_pos (by omega)]
  have hwp : ∀ x ∈ ((l.map enB).take (spTo l hi)).drop (spFrom l lo), ∃ e, right e = true ∧ x = enB e := by
    intro x hx
    obtain ⟨e, he, rfl⟩ := List.mem_map.1 (List.mem_of_mem_take (List.mem_of_mem_drop hx))
    obtain ⟨i, hi', rfl⟩ := List.mem_iff_getElem.1 he
    refine ⟨_, ?_, rfl⟩
    have := hr i hi'
    rw [List.getD_eq_getElem?_getD, List.getElem?_eq_getElem hi'] at this
    exact this
  have hM : (((l.map enB).take (spTo l hi)).drop (spFrom l lo)).map parseV = (l.take (spTo l hi)).drop (spFrom l lo) := by
    rw [List.map_drop, List.map_take, List.map_map]
    congr 2
    conv => rhs; rw [← List.map_id l]
    apply List.map_congr_left
    intro e he
    obtain ⟨i, hi', rfl⟩ := List.mem_iff_getElem.1 he
    have := hr i hi'
    rw [List.getD_eq_getElem?_getD, List.getElem?_eq_getElem hi'] at this
    exact (whole_enB this).2
  have hMget : ∀ j, j < spTo l hi - spFrom l lo → ((l.take (spTo l hi)).drop (spFrom l lo)).getD j default = l.getD (spFrom l lo + j) default := by
    intro j hj
    rw [List.getD_eq_getElem?_getD, List.getD_eq_getElem?_getD, List.getElem?_drop, List.getElem?_take, if_pos (by omega)]
  have hin : spanIn (l.getD 0 default).key (l.getD (l.length - 1) default).key lo hi (l.length : Nat) (spFrom l lo : Nat) (((l.map enB).take (spTo l hi)).drop (spFrom l lo)).length = true := by
    unfold spanIn overB
    rw [s3, s2, s1, decide_eq_true (by rw [hl]; omega)]
    rfl
  have hall : (((l.map enB).take (spTo l hi)).drop (spFrom l lo)).all wholeB = true := by
    rw [List.all_eq_true]
    intro x hx
    obtain ⟨e, he, rfl⟩ := hwp x hx
    exact (whole_enB he).1
  have hq : ((spFrom l lo : Nat) : Int) + ((((l.map enB).take (spTo l hi)).drop (spFrom l lo)).length : Nat) = (spTo l hi : Nat) := by rw [hl]; omega
  have hch : checkR b (rootF b (l.map enB)) (l.length : Nat) (spFrom l lo : Nat) (((l.map enB).take (spTo l hi)).drop (spFrom l lo)) (bsD b (l.map enB) (spFrom l lo : Nat) (spTo l hi : Nat)) = true := by
    have h1 := rootR_bs b (((l.map enB).take (spTo l hi)).drop (spFrom l lo)) l.length (l.map enB) (spFrom l lo : Nat) [] false hml h0 (fun j h1 h2 h3 => by
      rw [hq] at h3
      rw [hget _ (by omega)]
      congr 1
      omega)
    rw [hq, List.append_nil] at h1
    unfold checkR
    rw [Int.toNat_natCast, h1, decide_eq_true (by rw [hl]; omega)]
    simp
  have hsl : spanL b (rootF b (l.map enB)) (l.length : Nat) lo hi (spFrom l lo : Nat) (((l.map enB).take (spTo l hi)).drop (spFrom l lo)) (bsD b (l.map enB) (spFrom l lo : Nat) (spTo l hi : Nat)) = true := by
    unfold spanL
    rw [hch, hM, hq, hl, hMget 0 (by omega), hMget (spTo l hi - spFrom l lo - 1) (by omega)]
    have e1 : (!lt (l.getD (spFrom l lo + 0) default).key lo && decide ((0 : Int) < (spFrom l lo : Nat))) = false := by
      by_cases hz : spFrom l lo = 0
      · rw [hz]; simp
      · rw [(place_at hri lo (show spFrom l lo + 0 < l.length by omega)).2 (by unfold spFrom at hz ⊢; omega)]; rfl
    have e2 : (belowB (l.getD (spFrom l lo + (spTo l hi - spFrom l lo - 1)) default).key hi && decide (((spTo l hi : Nat) : Int) < (l.length : Nat))) = false := by
      by_cases hz : spTo l hi < l.length
      · have h7 : hi ≠ [] := by
          intro h; subst h; unfold spTo at hz; rw [if_pos rfl] at hz; omega
        have h9 : spTo l hi = placeN l hi + 1 := by
          unfold spTo at hz ⊢
          rw [if_neg h7] at hz ⊢
          omega
        have h8 : lt (l.getD (spFrom l lo + (spTo l hi - spFrom l lo - 1)) default).key hi = false := by
          rw [Bool.eq_false_iff]; intro h
          have := (place_at hri hi (by omega)).1 h
          omega
        rw [belowB, decide_eq_false h7, h8]; rfl
      · rw [decide_eq_false (by omega), Bool.and_false]
    have e3 : sorted ((l.take (spTo l hi)).drop (spFrom l lo)) = true := (sorted_iff _).2 ((hri.sublist (List.take_sublist _ _)).sublist (List.drop_sublist _ _))
    rw [e1, e2, e3]
    rfl
  unfold spanC
  rw [if_pos hin, if_pos hall, if_pos hsl, hM, filter_span hri]
section told
variable {a : AV} {m : SM} {b : Int} {l : List En} {k o lo hi : List UInt8}
theorem pspan_by [h : IsL a En.av 4 l m] {e p : Nat} {X : List (List UInt8)} {Y : List D32} (hl : l.length ≤ 1000000) (hp : spanP b l lo hi = (e, p, X, Y)) : PC Go.Proofs.Try.prog 14 [trA b, a, S lo, S hi] True (.tuple [spA (p : Nat) X Y, I .i64 (e : Nat)]) := ⟨fun _ => by
  have := (inferInstance : PC Go.Proofs.Try.prog 14 [trA b, a, S lo, S hi] _ _).ct hl
  rw [hp] at this
  exact this⟩
theorem cspan_by {d f g : List UInt8} [hd : Len32 d] {lv cnt p : Int} {X : List (List UInt8)} {Y : List D32} {e : Nat} {y : List En} (hc : cnt ≤ 9223372036854775807) (h1 : X.length ≤ 1000000) (h2 : ∀ b ∈ X, b.length ≤ 100000000000000) (hp : spanC b ⟨d, hd.len⟩ cnt f g lo hi p X Y = (e, y)) : PC Go.Proofs.Try.prog 26 [trA b, tabA lv cnt d f g, S lo, S hi, spA p X Y] True (.tuple [.lst 4 (y.map En.av) .ro, I .i64 (e : Nat)]) := ⟨fun _ => by
  have := (inferInstance : PC Go.Proofs.Try.prog 26 [trA b, tabA lv cnt d f g, S lo, S hi, spA p X Y] _ _).ct ⟨hc, h1, h2⟩
  rw [hp] at this
  exact this⟩
theorem pspan_ok (hf : fit l = true) (hs : spanOk l lo hi = true) : spanP b l lo hi = (0, spFrom l lo, ((l.map enB).take (spTo l hi)).drop (spFrom l lo), bsD b (l.map enB) (spFrom l lo : Nat) (spTo l hi : Nat)) := by rw [spanP, if_pos hf, if_pos hs]
theorem span_leaves (l : List En) (p q : Nat) : ∀ b ∈ ((l.map enB).take q).drop p, b.length ≤ 100000000000000 := by
  intro b hb
  obtain ⟨e, he, rfl⟩ := List.mem_map.1 (List.mem_of_mem_take (List.mem_of_mem_drop hb))
  have := enB_length e
  omega
end told
theorem lt_nil (x : List UInt8) : lt x [] = false := by cases x <;> rfl
theorem placeN_nil (l : List En) : placeN l [] = 0 := by
  unfold placeN
  rw [List.countP_eq_zero]
  intro e _
  rw [lt_nil]
  decide
theorem SeekWhole_ok (l : List En) (m : SM) (b : Int) (hl : l.length ≤ 100000000000000) (hb : (Lit.int .i64 b).wf = true) : aPure Go.Proofs.Try.prog 7 [.lst 4 (l.map En.av) m, I .i64 b] (B true) := by
  refine ACalls.fin (law12_SeekWhole.go ?_)
  unfold law12_SeekWhole.sh
  obtain ⟨L, hL⟩ : ∃ L, L = fitL ((l.take 70).map (cutE 130 1030)) := ⟨_, rfl⟩
  have h64 : L.length ≤ 64 := by rw [hL]; unfold fitL; simp; omega
  have iF : PC Go.Proofs.Try.prog 29 [.lst 4 (l.map En.av) m] True (.lst 4 (L.map En.av) .ro) := ⟨fun _ => by rw [hL]; exact PC.of (fit12_ok l m hl)⟩
  by_cases hf : fit L = true
  · have hri := (sorted_iff L).1 (fit_right hf).2.2.1
    have h0 := (fit_right hf).2.1
    have hs : spanOk L [] [] = true := by
      unfold spanOk belowB
      rw [lt_nil]
      simp
    have e1 : spFrom L [] = 0 := by unfold spFrom; rw [placeN_nil]
    have e2 : spTo L [] = L.length := by unfold spTo; rw [if_pos rfl]; omega
    have e3 : (L.map enB).length = L.length := by simp
    have e4 : ((L.map enB).take (spTo L [])).drop (spFrom L []) = L.map enB := by rw [e1, e2, List.drop_zero, List.take_of_length_le (by omega)]
    have e5 : L.filter (inS [] []) = L := by
      rw [List.filter_eq_self]
      intro e _
      unfold inS belowB
      rw [lt_nil]
      simp
    have e6 : bsD b (L.map enB) (spFrom L [] : Nat) (spTo L [] : Nat) = [] := bsD_all b L.length (L.map enB) _ _ e3 h0 (by rw [e1]; decide) (by rw [e2]; omega)
    have hP := pspan_ok (b := b) hf hs
    have hC := spanC_real b hf hs
    rw [e4, e6, e1] at hP hC
    rw [e5] at hC
    have hlv := span_leaves L 0 L.length
    rw [List.drop_zero, List.take_of_length_le (by omega)] at hlv
    have iD : ∀ {a : AV} {m : SM} [h : IsL a En.av 4 L m], PC Go.Proofs.Try.prog 30 [trA b, .val (.int .i64 2), a] True _ := desc_fit (b := b) (lev := 2) rfl hf (by decide)
    have iP : ∀ {a : AV} {m : SM} [h : IsL a En.av 4 L m], PC Go.Proofs.Try.prog 14 [trA b, a, S [], S []] True _ := pspan_by (by omega) hP
    have iC := cspan_by (lv := 2) (by omega) (by omega) hlv hC
    have hn0 : ([] : List D32).length = 0 := rfl
    repeat' (first | with_reducible apply Stp.go | with_reducible refine imp fun _ => ?_ | (with_reducible refine hyp ?_ ?_; first | assumption | exact leftT_mem (by assumption)) | (with_reducible refine need ?_ ?_; first | trivial | omega | exact ⟨by assumption, by omega⟩ | (simp only [List.length_append, List.length_cons, List.length_nil, List.length_map, List.length_take, List.length_drop, List.length_replicate, List.length_set]; omega)) | (with_reducible refine fact ?_ ?_; first | trivial | exact ⟨rfl, rfl⟩ | kernel_rfl) | with_reducible refine choT (by assumption) ?_ | with_reducible refine choF (by assumption) ?_ | with_reducible refine choF' (by assumption) ?_ | (with_reducible refine altT ?_ ?_; first | omega | (simp only [List.length_append, List.length_cons, List.length_nil, List.length_map, List.length_take, List.length_drop, List.length_replicate, List.length_set]; omega)) | with_reducible refine altF ?_ | with_reducible refine all fun _ => ?_ | with_reducible refine both ?_ ?_ | (with_reducible refine choT ?_ ?_; omega) | (with_reducible refine choF ?_ ?_; omega) | with_reducible refine cho (fun _ => ?_) (fun _ => ?_))
    refine loopI (β := Nat) (fun i => i ≤ L.length) (fun i => [.lst 4 (L.map En.av) .ro, B true, .lst 4 (L.map En.av) .ro, I .i64 (i : Nat)]) (fun _ => []) (fun i => L.length - i) 0 (Nat.zero_le _) (Sub.app_nil _) ?_
    intro i hi
    by_cases hlt : i < L.length
    · have hrf : L.getD i default = L.getD i default := rfl
      repeat' (first | with_reducible apply Stp.go | with_reducible refine imp fun _ => ?_ | (with_reducible refine hyp ?_ ?_; first | assumption | exact leftT_mem (by assumption)) | (with_reducible refine need ?_ ?_; first | trivial | omega | exact ⟨by assumption, by omega⟩ | (simp only [List.length_append, List.length_cons, List.length_nil, List.length_map, List.length_take, List.length_drop, List.length_replicate, List.length_set]; omega)) | (with_reducible refine fact ?_ ?_; first | trivial | exact ⟨rfl, rfl⟩ | kernel_rfl) | with_reducible refine choT (by assumption) ?_ | with_reducible refine choF (by assumption) ?_ | with_reducible refine choF' (by assumption) ?_ | (with_reducible refine altT ?_ ?_; first | omega | (simp only [List.length_append, List.length_cons, List.length_nil, List.length_map, List.length_take, List.length_drop, List.length_replicate, List.length_set]; omega)) | with_reducible refine altF ?_ | with_reducible refine all fun _ => ?_ | with_reducible refine both ?_ ?_ | (with_reducible refine choT ?_ ?_; omega) | (with_reducible refine choF ?_ ?_; omega) | with_reducible refine cho (fun _ => ?_) (fun _ => ?_))
      exact again (i + 1) (by omega) (by omega) (Sub.refl _ _)
    · repeat' (first | with_reducible apply Stp.go | with_reducible refine imp fun _ => ?_ | (with_reducible refine hyp ?_ ?_; first | assumption | exact leftT_mem (by assumption)) | (with_reducible refine need ?_ ?_; first | trivial | omega | exact ⟨by assumption, by omega⟩ | (simp only [List.length_append, List.length_cons, List.length_nil, List.length_map, List.length_take, List.length_drop, List.length_replicate, List.length_set]; omega)) | (with_reducible refine fact ?_ ?_; first | trivial | exact ⟨rfl, rfl⟩ | kernel_rfl) | with_reducible refine choT (by assumption) ?_ | with_reducible refine choF (by assumption) ?_ | with_reducible refine choF' (by assumption) ?_ | (with_reducible refine altT ?_ ?_; first | omega | (simp only [List.length_append, List.length_cons, List.length_nil, List.length_map, List.length_take, List.length_drop, List.length_replicate, List.length_set]; omega)) | with_reducible refine altF ?_ | with_reducible refine all fun _ => ?_ | with_reducible refine both ?_ ?_ | (with_reducible refine choT ?_ ?_; omega) | (with_reducible refine choF ?_ ?_; omega) | with_reducible refine cho (fun _ => ?_) (fun _ => ?_))
      exact ⟨_, _, _, rfl, Sub.app_nil _, rfl, rfl⟩
  · have iD : ∀ {a : AV} {m : SM} [h : IsL a En.av 4 L m], PC Go.Proofs.Try.prog 30 [trA b, .val (.int .i64 2), a] True _ := desc_not (b := b) (lev := 2) rfl (by omega) (by decide) (fun h => hf h.1)
    repeat' (first | with_reducible apply Stp.go | with_reducible refine imp fun _ => ?_ | (with_reducible refine hyp ?_ ?_; first | assumption | exact leftT_mem (by assumption)) | (with_reducible refine need ?_ ?_; first | trivial | omega | exact ⟨by assumption, by omega⟩ | (simp only [List.length_append, List.length_cons, List.length_nil, List.length_map, List.length_take, List.length_drop, List.length_replicate, List.length_set]; omega)) | (with_reducible refine fact ?_ ?_; first | trivial | exact ⟨rfl, rfl⟩ | kernel_rfl) | with_reducible refine choT (by assumption) ?_ | with_reducible refine choF (by assumption) ?_ | with_reducible refine choF' (by assumption) ?_ | (with_reducible refine altT ?_ ?_; first | omega | (simp only [List.length_append, List.length_cons, List.length_nil, List.length_map, List.length_take, List.length_drop, List.length_replicate, List.length_set]; omega)) | with_reducible refine altF ?_ | with_reducible refine all fun _ => ?_ | with_reducible refine both ?_ ?_ | (with_reducible refine choT ?_ ?_; omega) | (with_reducible refine choF ?_ ?_; omega) | with_reducible refine cho (fun _ => ?_) (fun _ => ?_))
    all_goals exact ⟨_, _, _, rfl, Sub.app_nil _, rfl, rfl⟩
end Go.Ab
