/- The texts that this claim needs, part 12: a logic over abstract values, its steps, what the functions do. No condition of its own. -/
import Derived.Shelf.SlSortCmp.NoneTotal
import Derived.Test.YtobhbepiaibceaaSeekSpansK11
/- slices.SortFunc at entries: from the kit's contract to a call told of abstract states. -/
set_option linter.unusedVariables false
set_option linter.unusedSimpArgs false
namespace Go.Ab
open Go.Proofs Go.Shelf Go.RowKit Go.Lib Go.Sort
theorem isNaN_walk (x : ByteArray) (W : World) : Calls Go.Proofs.Try.prog 130 #[.string x] W fun e w' => e = .returned (.bool false) ∧ w' = W := by
  go_enter Go.Proofs.Try.func130, Go.Proofs.Try.ntmps130
  go_wp2
  go_ret
  exact ⟨rfl, rfl⟩
set_option maxHeartbeats 1000000 in
theorem compare_walk (a b : List UInt8) (W : World) : Calls Go.Proofs.Try.prog 116 #[.string ⟨a.toArray⟩, .string ⟨b.toArray⟩] W fun e w' => e = .returned (.int .i64 (cmpK a b)) ∧ w' = W := by
  have h86 := isNaN_walk
  have hg : ∀ w, (binOp .gtr 9 (.string ⟨a.toArray⟩) (.string ⟨b.toArray⟩)).run Go.Proofs.Try.prog w = .ok (.bool (!(Op.bytesLess a b || decide (a = b)))) w := fun w => by simp [binOp, Op.stringOp, bdec]
  have hl : Op.bytesLess (⟨a.toArray⟩ : ByteArray).toList (⟨b.toArray⟩ : ByteArray).toList = Op.bytesLess a b := by simp
  go_enter Go.Proofs.Try.func116, Go.Proofs.Try.ntmps116
  go_wp2_with (go_at_call 130; refine (h86 _ _).mono ?_; rintro e w' ⟨rfl, rfl⟩)
  all_goals go_ret
  all_goals refine ⟨?_, rfl⟩
  all_goals simp_all [cmpK, lt]
/-- An entry's cells. -/
def enc (e : En) : List Value := [.string ⟨e.key.toArray⟩, .string ⟨e.val.toArray⟩, .bool e.del, .int .i64 e.seq]
theorem byKey_walk (x y : En) (W : World) : Calls Go.Proofs.Try.prog 94 #[.agg (enc x).toArray, .agg (enc y).toArray] W fun e w' => e = .returned (.int .i64 (cmpK x.key y.key)) ∧ ∃ q os', w' = grow (W.drewN q) os' := by
  have hcon := fun W' => compare_walk x.key y.key W'
  simp only [enc]
  generalize cmpK x.key y.key = r at hcon ⊢
  go_enter Go.Proofs.Try.func94, Go.Proofs.Try.ntmps94
  go_wp2_with (go_at_call 116; refine (hcon _).mono ?_; rintro e w' ⟨rfl, rfl⟩)
  go_ret
  exact ⟨rfl, 0, _, by rw [alloc_eq_grow, alloc_eq_grow, grow_grow]; rfl⟩
theorem ltOf_key (x y : En) : ltOf (fun x y : En => cmpK x.key y.key) x y = lt x.key y.key := by
  unfold ltOf
  cases h : lt x.key y.key with
  | true => simp [cmpK, h]
  | false => have := (cmpK_neg x.key y.key).2 h; simp; omega
theorem swo_key : SWO (ltOf fun x y : En => cmpK x.key y.key) where
  irrefl x := by rw [ltOf_key, lt_irrefl]
  trans x y z h1 h2 := by rw [ltOf_key] at *; exact lt_trans' h1 h2
  ntrans x y z h1 h2 := by
    rw [ltOf_key] at *
    cases h : lt x.key z.key with
    | false => rfl
    | true => rw [lt_of_ge h1 h] at h2; cases h2
theorem flat_enc (l : List En) : flat (l.map En.av) = (l.flatMap enc).map .val := by
  induction l with
  | nil => rfl
  | cons e l ih =>
    simp only [List.map_cons, List.flatMap_cons, List.map_append, ← ih]
    rfl
theorem flatK_enc (d : Array En) : (flatK enc 4 d).toList = d.toList.flatMap enc := by
  obtain ⟨l, rfl⟩ : ∃ l, d = List.toArray l := ⟨d.toList, by simp⟩
  have hf : ∀ l : List En, (l.flatMap enc).length = l.length * 4 := fun l => by
    induction l with
    | nil => rfl
    | cons e l ih => simp only [List.flatMap_cons, List.length_append, ih, List.length_cons, enc, List.length_nil]; omega
  have hg : ∀ (l : List En) (t : Nat), t < l.length * 4 → (l.flatMap enc)[t]? = some ((enc (l.getD (t / 4) default))[t % 4]!) := by
    intro l
    induction l with
    | nil => intro t ht; simp at ht
    | cons e l ih =>
      intro t ht
      rcases Nat.lt_or_ge t 4 with h4 | h4
      · rw [List.flatMap_cons, List.getElem?_append_left (by simpa [enc] using h4)]
        have e1 : t / 4 = 0 := by omega
        have e2 : t % 4 = t := by omega
        rw [e1, e2, List.getD_cons_zero, List.getElem!_eq_getElem?_getD, List.getElem?_eq_getElem (by simpa [enc] using h4)]
        rfl
      · rw [List.flatMap_cons, List.getElem?_append_right (by simpa [enc] using h4)]
        have e3 : (enc e).length = 4 := rfl
        obtain ⟨u, rfl⟩ : ∃ u, t = u + 4 := ⟨t - 4, by omega⟩
        have e1 : (u + 4) / 4 = u / 4 + 1 := by omega
        have e2 : (u + 4) % 4 = u % 4 := by omega
        rw [e3, Nat.add_sub_cancel, e1, e2, List.getD_cons_succ]
        exact ih u (by simp at ht; omega)
  apply List.ext_getElem?
  intro t
  rcases Nat.lt_or_ge t (l.length * 4) with h | h
  · rw [show (List.toArray l).toList = l from rfl, hg l t h]
    have hs : t < (flatK enc 4 l.toArray).size := by simpa using h
    have := get_flatK enc 4 l.toArray t (by simpa using h)
    rw [getElem!_pos _ t hs] at this
    rw [Array.getElem?_toList, Array.getElem?_eq_getElem hs, this]
    simp [List.getD_eq_getElem?_getD, Array.getElem!_eq_getD, Array.getD]
    by_cases h4 : t / 4 < l.length <;> simp [h4]
  · rw [List.getElem?_eq_none (by simpa using h), List.getElem?_eq_none (by rw [hf]; exact h)]
theorem flatMap_enc_length : ∀ l : List En, (l.flatMap enc).length = l.length * 4
  | [] => rfl
  | e :: l => by simp only [List.flatMap_cons, List.length_append, flatMap_enc_length l, List.length_cons, enc, List.length_nil]; omega
theorem enc_one (l : List En) : ∀ v ∈ l.flatMap enc, v.oneCell' = true := by
  intro v hv
  obtain ⟨e, _, h⟩ := List.mem_flatMap.1 hv
  simp only [enc, List.mem_cons, List.not_mem_nil, or_false] at h
  rcases h with rfl | rfl | rfl | rfl <;> rfl
theorem grown_grow (w : World) (os : Array Obj) : w.grownBy (grow w os) none := ⟨rfl, rfl, rfl, by simp, fun k hk _ => heap_grow_old w os hk⟩
theorem body_sort : HasBody Go.Proofs.Try.prog 99 := ⟨Go.Proofs.Try.f99, _, by kernel_rfl, rfl, by kernel_rfl⟩
theorem sort_ok (l : List En) (v : Value) (σ1 σ2 : Store) (hlen : l.length < 4611686018427387904) : ACalls Go.Proofs.Try.prog 99 [.own v l.length, .val (.func (.func 94) #[] #[])] (σ1 ++ .row v 54 4 (l.map En.av) 0 :: σ2)
    fun x σ' => ∃ l' : List En, (l'.Perm l ∧ l'.Pairwise fun a b => lt b.key a.key = false) ∧ x = .ret (.tuple []) ∧ σ' = σ1 ++ .row v 54 4 (l'.map En.av) 0 :: σ2 := by
  refine ⟨body_sort, fun R w vs hv hs => ?_⟩
  obtain ⟨hvl, hvr⟩ := hv
  match vs, hvl with
  | [x, y], _ =>
    have hx := (hvr 0 _ x rfl rfl).own_inv.1
    have hy := (hvr 1 _ y rfl rfl).val_inv
    subst hx; subst hy
    obtain ⟨h1, h2, ⟨xs, hown, hxs, hone⟩, hmx, hR⟩ := hs.ents (.row x 54 4 (l.map En.av) 0) (by simp)
    have hxs' : xs = l.flatMap enc := VRs.toVals (by rw [← flat_enc]; exact hxs)
    subst hxs'
    obtain ⟨hlx, hown⟩ := hown.plain (by decide)
    rw [List.length_map] at hlx hown
    rcases hown with ⟨rfl, h0⟩ | ⟨g, cap, cur, rfl, hg0, hg, hnc, hcap, hsz, hcur⟩
    · have hl0 : l = [] := List.length_eq_zero_iff.1 h0
      subst hl0
      refine (AnyF.slices_SortFunc_none Go.Proofs.Try.sortEn none 0 _ w).mono ?_
      rintro e w' ⟨rfl, rfl⟩
      exact ⟨.ret (.tuple []), R, _, VR.tuple' (VRs.nil R), ⟨[], ⟨List.Perm.refl _, List.Pairwise.nil⟩, rfl, rfl⟩, hs, Ext.refl _ _ _⟩
    · have hgl : g < w.heap.size := by
        rcases Nat.lt_or_ge g w.heap.size with h | h
        · exact h
        · rw [Array.getElem?_eq_none h] at hg; cases hg
      have eg : ∀ args w, (callFunc 94 args).run Go.Proofs.Try.prog w = .ok (.enter 94 args) w := enters_of Go.Proofs.Try.func94 (by kernel_rfl) rfl
      have hfk := flatK_enc l.toArray
      have hH : HoldsK enc 4 w g 0 l.toArray := by
        intro j hj
        have hj' : j < l.length * 4 := by simpa using hj
        have hc : cur.toList[j]? = (l.flatMap enc)[j]? := by
          rw [← hcur, List.getElem?_take, if_pos hj']
        have hc2 : cur[j]? = some ((flatK enc 4 l.toArray)[j]!) := by
          rw [← Array.getElem?_toList, hc, ← hfk, Array.getElem?_toList, getElem!_pos _ j hj, Array.getElem?_eq_getElem hj]
        exact ⟨by simp only [World.cell?, hg, Nat.zero_add]; simpa using hc2, by simp [World.frozen?, hg]⟩
      have hcon := AnyQ.slices_SortFunc Go.Proofs.Try.sortEn 4 Go.Proofs.Try.isAgg54 Go.Proofs.Try.sizeOf54 enc (fun _ => rfl) (fun e u hu => enc_one [e] u (by simpa using hu)) (fun x y => cmpK x.key y.key) swo_key 94 #[] g 0 cap l.toArray w eg (fun _ _ _ _ x y => byKey_walk x y _) hH hgl (by simpa using hlen)
      refine hcon.mono ?_
      rintro e w' ⟨rfl, d', n, os, hp, hso, rfl⟩
      obtain ⟨hds, _, hpm⟩ := hp
      have hds : d'.size = l.length := by simpa using hds
      have hperm : d'.toList.Perm l := by
        have h3 := hpm
        simp only [List.size_toArray, ← hds, Array.extract_size] at h3
        rw [hds, show l.length = l.toArray.size from rfl, Array.extract_size] at h3
        exact h3
      have hpw : d'.toList.Pairwise fun a b => lt b.key a.key = false := by
        rw [List.pairwise_iff_getElem]
        intro i j hi hj hij
        have := hso i j (Nat.zero_le _) hij (by simpa [← hds] using hj)
        rw [ltOf_key, getElem!_pos d' j (by simpa using hj), getElem!_pos d' i (by simpa using hi)] at this
        simpa using this
      obtain ⟨cur', hcur'⟩ : ∃ c, c = putCells id 0 (flatK enc 4 d') cur := ⟨_, rfl⟩
      have hmod : ∀ k, (putRowK enc 4 (Go.Sort.ahead w n) g 0 d').heap[k]? = if k = g then some (.cells cur' 54 (0, 0)) else w.heap[k]? := by
        intro k
        show (w.heap.modify g _)[k]? = _
        rw [Array.getElem?_modify]
        by_cases hk : k = g
        · subst hk
          rw [if_pos rfl, if_pos rfl, hg, hcur']
          rfl
        · rw [if_neg (fun h => hk h.symm), if_neg hk]
      have htake : cur'.toList.take (l.length * 4) = d'.toList.flatMap enc := by
        rw [← flatK_enc, hcur']
        apply List.ext_getElem?
        intro t
        have hfs : (flatK enc 4 d').size = l.length * 4 := by simp [hds]
        have hcs : l.length * 4 ≤ cur.size := by rw [hsz]; exact Nat.mul_le_mul_right 4 hnc
        rcases Nat.lt_or_ge t (l.length * 4) with h | h
        · rw [List.getElem?_take, if_pos h, Array.getElem?_toList, Array.getElem?_toList]
          unfold putCells
          rw [Array.getElem?_mapIdx, Array.getElem?_eq_getElem (by omega : t < cur.size), Array.getElem?_eq_getElem (by omega : t < (flatK enc 4 d').size)]
          simp only [Option.map_some, Nat.zero_le, true_and, Nat.zero_add, Nat.sub_zero, id_eq]
          rw [if_pos (by omega), getElem!_pos _ t (by omega)]
        · rw [List.getElem?_eq_none (by simp; omega), List.getElem?_eq_none (by simp; omega)]
      have hcs' : cur'.size = cap * 4 := by rw [hcur']; simp [putCells, hsz]
      have hE : EntOk R (putRowK enc 4 (Go.Sort.ahead w n) g 0 d') (.row (.slice (some ⟨g, 0, none⟩) l.length cap) 54 4 (d'.toList.map En.av) 0) := by
        refine ⟨h1, fun e he => ?_, ⟨d'.toList.flatMap enc, rowM.of ⟨?_, .inr ⟨g, cap, cur', ?_, hg0, ?_, ?_, hcap, hcs', ?_⟩⟩, ?_, enc_one _⟩, ?_, fun a x ha hb => ?_⟩
        · obtain ⟨e0, _, rfl⟩ := List.mem_map.1 he
          rfl
        · rw [flatMap_enc_length]; simp
        · simp [hds]
        · rw [hmod, if_pos rfl]
        · simpa [hds] using hnc
        · simpa [hds] using htake
        · rw [flat_enc]; exact VRs.ofVals R _
        · simpa [hds] using hmx
        · have := hR a x ha hb
          omega
      have hst := st_change (b := g) (e' := .row (.slice (some ⟨g, 0, none⟩) l.length cap) 54 4 (d'.toList.map En.av) 0) hs rfl rfl (w' := putRowK enc 4 (Go.Sort.ahead w n) g 0 d') rfl rfl rfl (by show (w.heap.modify g _).size = _; simp) (fun k hk => by rw [hmod, if_neg hk]) (fun a x ha hb => by
        have := hR a x ha (by simp [Value.ownBlock, hb])
        omega) hE
      obtain ⟨q1, q2⟩ := hst
      obtain ⟨q3, q4⟩ := st_roNew q1 (grown_grow _ os)
      exact ⟨.ret (.tuple []), _, _, VR.tuple' (VRs.nil _), ⟨d'.toList, ⟨hperm, hpw⟩, rfl, rfl⟩, q3, q2.trans q4⟩
instance sortQ {l : List En} {v : Value} {n : Nat} {σ rest : Store} {put : Ent → Store} [hr : RowAt v σ 54 4 (l.map En.av) 0 put rest] :
    EQ Go.Proofs.Try.prog 99 [.own v n, .val (.func (.func 94) #[] #[])] σ (n = l.length ∧ l.length < 4611686018427387904) (List En) (fun l' => l'.Perm l ∧ l'.Pairwise fun a b => lt b.key a.key = false) (fun _ => .tuple []) (fun l' => put (.row v 54 4 (l'.map En.av) 0)) := ⟨fun ⟨h1, h2⟩ => by
  obtain ⟨σ1, σ2, e, e2, _⟩ := hr.at_
  subst h1; subst e
  simp only [e2]
  exact sort_ok l v σ1 σ2 h2⟩
end Go.Ab

/- The code's fold. -/
set_option linter.unusedVariables false
set_option linter.unusedSimpArgs false
namespace Go.Ab
def entry_Fold.mark : Mark := ⟨fun t => false, fun t => false, fun t => false, fun t => Nat.beq t 17, fun t => Nat.beq t 40⟩
def entry_Fold.ann : Ann := ⟨fun n => bif Nat.beq n 3 then [3, 12, 13, 14] else bif Nat.beq n 11 then [8, 43] else [], fun n => none, fun n => none⟩
/-- 'marlstone/entry.Fold' -/
def entry_Fold.sh (a0 : AV) (σ : Store) (Q : AEnd → Store → Prop) : Prop :=
  aHook (eMakeMap σ) fun t11 σ =>
  Do (aBuiltin Go.Proofs.Try.prog .len #[22] [a0]) fun t13 =>
  aLoop (fun go vs σ_1 =>
    At vs 0 fun s3 => At vs 1 fun s12 => At vs 2 fun s13 => At vs 3 fun s14 => Do (aBin Go.Proofs.Try.prog .lss 3 s14 s13) fun t15 =>
    aCond t15
      (Do (aIndexAddr .slice 4 s12 s14) fun t16 =>
    Do (loadF true 4 t16) fun t17 =>
    aNewVar 54 [.val (.string ⟨#[]⟩), .val (.string ⟨#[]⟩), .val (.bool false), .val (.int .i64 0)] σ_1 fun t5 σ_2 =>
    storeA 4 t5 t17 σ_2 fun u σ_3 =>
    Do (aFieldAddr 0 1 t5) fun t20 =>
    Do (loadA false 1 t20 σ_3) fun t21 =>
    Do (lookA Go.Proofs.Try.prog 139 true s3 t21 σ_3) fun t22 =>
    Do (aExt t22 0) fun t23 =>
    Do (aExt t22 1) fun t24 =>
    aNewVar 54 [.val (.string ⟨#[]⟩), .val (.string ⟨#[]⟩), .val (.bool false), .val (.int .i64 0)] σ_3 fun t6 σ_4 =>
    storeA 4 t6 t23 σ_4 fun u_1 σ_5 =>
    Do (aUn Go.Proofs.Try.prog .not t24) fun t26 =>
    Do (aGuard t26 false (aFieldAddr 3 1 t5)) fun t28 =>
    Do (aGuard t26 false (loadA false 1 t28 σ_5)) fun t29 =>
    Do (aGuard t26 false (aFieldAddr 3 1 t6)) fun t30 =>
    Do (aGuard t26 false (loadA false 1 t30 σ_5)) fun t31 =>
    Do (aGuard t26 false (aBin Go.Proofs.Try.prog .geq 3 t29 t31)) fun t32 =>
    Do (aPick t26 (.val (.bool true)) t32) fun t33 =>
    aCond t33
      (Do (aFieldAddr 0 1 t5) fun t35 =>
      Do (loadA false 1 t35 σ_5) fun t36 =>
      Do (loadA true 4 t5 σ_5) fun t37 =>
      aHook (eMapUpd Go.Proofs.Try.prog 139 s3 t36 t37 σ_5) fun u_2 σ_6 =>
      Do (aBin Go.Proofs.Try.prog .add 3 s14 (.val (.int .i64 1))) fun t38 =>
    go [s3, s12, s13, t38] σ_6)
      (Do (aBin Go.Proofs.Try.prog .add 3 s14 (.val (.int .i64 1))) fun t38_1 =>
    go [s3, s12, s13, t38_1] σ_5))
      (Do (lenMA Go.Proofs.Try.prog 139 s3 σ_1) fun t40 =>
  aMake 54 [(.string ⟨#[]⟩), (.string ⟨#[]⟩), (.bool false), (.int .i64 0)] 4 48 (.val (.int .i64 0)) t40 σ_1 (subK fun t41 σ_7 =>
  aHook (eRange Go.Proofs.Try.prog 139 s3 σ_7) fun t43 σ_8 =>
  aLoop (fun go_1 vs_1 σ_9 =>
    At vs_1 0 fun s8 => At vs_1 1 fun s43 => aHook (eNext s43 σ_9) fun t44 σ_10 =>
    Do (aExt t44 0) fun t45 =>
    aCond t45
      (Do (entryA s43 σ_10) fun t46 =>
    Do (aExt t46 1) fun t47 =>
    aNewVar 54 [.val (.string ⟨#[]⟩), .val (.string ⟨#[]⟩), .val (.bool false), .val (.int .i64 0)] σ_10 fun t10 σ_11 =>
    storeA 4 t10 t47 σ_11 fun u_3 σ_12 =>
    Do (loadA true 4 t10 σ_12) fun t49 =>
    Do (aSlLit (mkE [.val (.string ⟨#[]⟩), .val (.string ⟨#[]⟩), .val (.bool false), .val (.int .i64 0)]) 4 1 [(0, t49)]) fun t50 =>
    aAppend 54 4 48 s8 t50 σ_12 (subK fun t51 σ_13 =>
    go_1 [t51, s43] σ_13))
      (aCall Go.Proofs.Try.prog 99 [s8, (.val (.func (.func 94) #[] #[]))] σ_10 (fun t53 σ_14 =>
  Q (.ret s8) σ_14) (fun e σ_15 => Q (.pan e) σ_15)))
    [t41, t43] σ_8)))
    [t11, a0, t13, (.val (.int .i64 0))] σ
theorem entry_Fold.eq (a0 : AV) (σ : Store) (Q : AEnd → Store → Prop) : vc (semOf Go.Proofs.Try.prog entry_Fold.mark) Go.Proofs.Try.f60.ntmps entry_Fold.ann (bodyOf Go.Proofs.Try.f60) (endK [.tmp 2] Q) (argFr [a0]) σ = entry_Fold.sh a0 σ Q := by kernel_rfl
theorem entry_Fold.go {a0 : AV} {σ : Store} {Q : AEnd → Store → Prop} (h : entry_Fold.sh a0 σ Q) : ACalls Go.Proofs.Try.prog 60 [a0] σ Q :=
  acalls_of_eq [.tmp 2] Go.Proofs.Try.func60 (by kernel_rfl) (by kernel_rfl) (by kernel_rfl) (by kernel_rfl) (entry_Fold.eq a0 σ Q) h
theorem Fold_ok (l : List En) (m : SM) (hl : l.length ≤ 1000000000) : ACalls Go.Proofs.Try.prog 60 [.lst 4 (l.map En.av) m] [] fun x σ' => ∃ v, x = .ret (.own v (foldE l).length) ∧ σ' = [.row v 54 4 ((foldE l).map En.av) 0] := by
  refine ACalls.fin (entry_Fold.go ?_)
  unfold entry_Fold.sh
  repeat' (first | with_reducible apply Stp.go | with_reducible refine imp fun _ => ?_ | (with_reducible refine hyp ?_ ?_; first | assumption | exact leftT_mem (by assumption)) | (with_reducible refine need ?_ ?_; first | trivial | omega | exact ⟨by assumption, by omega⟩ | (simp only [List.length_append, List.length_cons, List.length_nil, List.length_map, List.length_take, List.length_drop, List.length_replicate, List.length_set]; omega)) | (with_reducible refine fact ?_ ?_; first | trivial | exact ⟨rfl, rfl⟩ | kernel_rfl) | with_reducible refine choT (by assumption) ?_ | with_reducible refine choF (by assumption) ?_ | with_reducible refine choF' (by assumption) ?_ | (with_reducible refine altT ?_ ?_; first | omega | (simp only [List.length_append, List.length_cons, List.length_nil, List.length_map, List.length_take, List.length_drop, List.length_replicate, List.length_set]; omega)) | with_reducible refine altF ?_ | with_reducible refine all fun _ => ?_ | with_reducible refine both ?_ ?_ | (with_reducible refine choT ?_ ?_; omega) | (with_reducible refine choF ?_ ?_; omega) | with_reducible refine cho (fun _ => ?_) (fun _ => ?_))
  rename_i mb
  refine loopI (β := Nat × List (Nat × List UInt8 × En) × Nat) (fun x => x.1 ≤ l.length ∧ Tbl x.2.1 x.2.2 (foldE (l.take x.1)) ∧ x.2.1.length ≤ x.1) (fun x => [.val (.map (some mb)), .lst 4 (l.map En.av) m, I .i64 (l.length : Nat), I .i64 (x.1 : Nat)])
    (fun x => [.map mb (mkM keyS En.av x.2.1) x.2.2]) (fun x => l.length - x.1) (0, [], 0) ⟨Nat.zero_le _, Tbl.nil, Nat.le_refl _⟩ (Sub.refl _ _) ?_
  rintro ⟨i, L, c⟩ ⟨hi, ht, hL⟩
  dsimp only at hi ht hL ⊢
  have hF := foldE_rises (l.take i)
  by_cases hlt : i < l.length
  · have hs := foldE_take_succ hlt
    have hset := ht.set hF (e := l.getD i default)
    have hkeep := fun x => ht.keep hF (e := l.getD i default) (x := x)
    have hsl := setT_length (l.getD i default).key (l.getD i default) c L
    rw [← hs] at hset hkeep
    repeat' (first | with_reducible apply Stp.go | with_reducible refine imp fun _ => ?_ | (with_reducible refine hyp ?_ ?_; first | assumption | exact leftT_mem (by assumption)) | (with_reducible refine need ?_ ?_; first | trivial | omega | exact ⟨by assumption, by omega⟩ | (simp only [List.length_append, List.length_cons, List.length_nil, List.length_map, List.length_take, List.length_drop, List.length_replicate, List.length_set]; omega)) | (with_reducible refine fact ?_ ?_; first | trivial | exact ⟨rfl, rfl⟩ | kernel_rfl) | with_reducible refine choT (by assumption) ?_ | with_reducible refine choF (by assumption) ?_ | with_reducible refine choF' (by assumption) ?_ | (with_reducible refine altT ?_ ?_; first | omega | (simp only [List.length_append, List.length_cons, List.length_nil, List.length_map, List.length_take, List.length_drop, List.length_replicate, List.length_set]; omega)) | with_reducible refine altF ?_ | with_reducible refine all fun _ => ?_ | with_reducible refine both ?_ ?_ | (with_reducible refine choT ?_ ?_; omega) | (with_reducible refine choF ?_ ?_; omega) | with_reducible refine cho (fun _ => ?_) (fun _ => ?_))
    · rename_i h1 h2
      refine again (i + 1, setT (l.getD i default).key (l.getD i default) c L, bif hasT (l.getD i default).key L then c else c + 1) (by dsimp only; omega) ⟨by dsimp only; omega, hset fun x hx => by rw [hx] at h2; exact h2, by dsimp only; omega⟩ ?_
      exact subS _
    · rename_i h1 h2
      obtain ⟨x, hx⟩ := Option.isSome_iff_exists.1 h1
      rw [hx] at h2
      refine again (i + 1, L, c) (by dsimp only; omega) ⟨by dsimp only; omega, hkeep x hx h2, by dsimp only; omega⟩ ?_
      exact subS _
    · rename_i h1
      refine again (i + 1, setT (l.getD i default).key (l.getD i default) c L, bif hasT (l.getD i default).key L then c else c + 1) (by dsimp only; omega) ⟨by dsimp only; omega, hset fun x hx => by rw [hx] at h1; exact absurd rfl h1, by dsimp only; omega⟩ ?_
      exact subS _
  · have e : l.take i = l := List.take_of_length_le (by omega)
    rw [e] at ht hF
    repeat' (first | with_reducible apply Stp.go | with_reducible refine imp fun _ => ?_ | (with_reducible refine hyp ?_ ?_; first | assumption | exact leftT_mem (by assumption)) | (with_reducible refine need ?_ ?_; first | trivial | omega | exact ⟨by assumption, by omega⟩ | (simp only [List.length_append, List.length_cons, List.length_nil, List.length_map, List.length_take, List.length_drop, List.length_replicate, List.length_set]; omega)) | (with_reducible refine fact ?_ ?_; first | trivial | exact ⟨rfl, rfl⟩ | kernel_rfl) | with_reducible refine choT (by assumption) ?_ | with_reducible refine choF (by assumption) ?_ | with_reducible refine choF' (by assumption) ?_ | (with_reducible refine altT ?_ ?_; first | omega | (simp only [List.length_append, List.length_cons, List.length_nil, List.length_map, List.length_take, List.length_drop, List.length_replicate, List.length_set]; omega)) | with_reducible refine altF ?_ | with_reducible refine all fun _ => ?_ | with_reducible refine both ?_ ?_ | (with_reducible refine choT ?_ ?_; omega) | (with_reducible refine choF ?_ ?_; omega) | with_reducible refine cho (fun _ => ?_) (fun _ => ?_))
    rename_i v0 it
    refine loopI (β := Value × List En × List Nat) (fun x => (x.2.1 ++ (leftT L x.2.2).map (·.2.2)).Perm (L.map (·.2.2))) (fun x => [.own x.1 x.2.1.length, ptrAt it 0])
      (fun x => [.iter it mb c x.2.2 c, .row x.1 54 4 (x.2.1.map En.av) 0, .map mb (mkM keyS En.av L) c]) (fun x => (leftT L x.2.2).length) (v0, [], []) ?_ (Sub.refl _ _) ?_
    · dsimp only
      rw [left_nil]
      exact List.Perm.refl _
    · rintro ⟨v, o, seen⟩ hp
      dsimp only at hp ⊢
      have hol : o.length ≤ L.length := by
        have := hp.length_eq
        simp only [List.length_append, List.length_map] at this
        omega
      repeat' (first | with_reducible apply Stp.go | with_reducible refine imp fun _ => ?_ | (with_reducible refine hyp ?_ ?_; first | assumption | exact leftT_mem (by assumption)) | (with_reducible refine need ?_ ?_; first | trivial | omega | exact ⟨by assumption, by omega⟩ | (simp only [List.length_append, List.length_cons, List.length_nil, List.length_map, List.length_take, List.length_drop, List.length_replicate, List.length_set]; omega)) | (with_reducible refine fact ?_ ?_; first | trivial | exact ⟨rfl, rfl⟩ | kernel_rfl) | with_reducible refine choT (by assumption) ?_ | with_reducible refine choF (by assumption) ?_ | with_reducible refine choF' (by assumption) ?_ | (with_reducible refine altT ?_ ?_; first | omega | (simp only [List.length_append, List.length_cons, List.length_nil, List.length_map, List.length_take, List.length_drop, List.length_replicate, List.length_set]; omega)) | with_reducible refine altF ?_ | with_reducible refine all fun _ => ?_ | with_reducible refine both ?_ ?_ | (with_reducible refine choT ?_ ?_; omega) | (with_reducible refine choF ?_ ?_; omega) | with_reducible refine cho (fun _ => ?_) (fun _ => ?_))
      · rename_i h0 o' hq
        rw [h0, List.map_nil, List.append_nil] at hp
        have e1 : o' = foldE l := ht.sorted hF (hq.1.trans hp) hq.2
        have e2 : o.length = (foldE l).length := by rw [← e1]; exact hq.1.length_eq.symm
        subst e1
        exact ⟨_, _, _, rfl, subS _, v, by rw [e2], rfl⟩
      · rename_i x hx t w
        have hlt := left_take ht.nb hx
        refine again (w, o ++ [x.2.2], seen ++ [x.1]) ?_ ?_ ?_
        · have := hlt.length_eq
          simp only [List.length_cons] at this
          dsimp only
          omega
        · dsimp only
          rw [List.append_assoc]
          exact ((((hlt.map (·.2.2)).symm).append_left o)).trans hp
        · exact subS _
theorem Fold_pure (l : List En) (m : SM) (hl : l.length ≤ 1000000000) : aPure Go.Proofs.Try.prog 60 [.lst 4 (l.map En.av) m] (.lst 4 ((foldE l).map En.av) .ro) :=
  ACalls.fin ((Fold_ok l m hl).mono fun x τ ⟨v, e1, e2⟩ => ⟨_, _, _, e1, by rw [e2]; exact retOwn (Sub.refl _ _), rfl, rfl⟩)
instance {a : AV} {l : List En} {m : SM} [h : IsL a En.av 4 l m] : PC Go.Proofs.Try.prog 60 [a] (l.length ≤ 1000000000) (.lst 4 ((foldE l).map En.av) .ro) := ⟨fun hl => ⟨[.lst 4 (l.map En.av) m], ⟨h.sub, trivial⟩, Fold_pure l m hl⟩⟩
end Go.Ab

/- DeleteFunc of an own row; what writes come to. -/
set_option linter.unusedVariables false
set_option linter.unusedSimpArgs false
namespace Go.Ab
def slices_DeleteFunc.mark : Mark := ⟨fun t => false, fun t => false, fun t => false, fun t => false, fun t => Nat.beq t 10 || Nat.beq t 28⟩
def slices_DeleteFunc.ann : Ann := ⟨fun n => bif Nat.beq n 5 then [0, 1, 5, 6] else [], fun n => none, fun n => none⟩
/-- 'slices.DeleteFunc[[]marlstone/api.Entry,marlstone/api.Entry]' -/
def slices_DeleteFunc.sh (a0 a1 : AV) (σ : Store) (Q : AEnd → Store → Prop) : Prop :=
  Do (lookC Go.Proofs.Try.prog 96 [a0, a1] σ) fun t10 =>
  Do (aBin Go.Proofs.Try.prog .eql 3 t10 (.val (.int .i64 (-1)))) fun t12 =>
  aCond t12
    (Q (.ret a0) σ)
    (Do (aBin Go.Proofs.Try.prog .add 3 t10 (.val (.int .i64 1))) fun t15 =>
  aLoop (fun go vs σ =>
    At vs 0 fun s0 => At vs 1 fun s1 => At vs 2 fun s5 => At vs 3 fun s6 => Do (aBuiltin Go.Proofs.Try.prog .len #[22] [s0]) fun t18 =>
    Do (aBin Go.Proofs.Try.prog .lss 3 s6 t18) fun t19 =>
    aCond t19
      (Do (aIndexAddr .slice 4 s0 s6) fun t24 =>
    Do (loadA true 4 t24 σ) fun t25 =>
    aNewVar 54 [.val (.string ⟨#[]⟩), .val (.string ⟨#[]⟩), .val (.bool false), .val (.int .i64 0)] σ fun t7 σ_1 =>
    storeA 4 t7 t25 σ_1 fun u σ_2 =>
    Do (loadA true 4 t7 σ_2) fun t27 =>
    Do (lookV Go.Proofs.Try.prog s1 [t27] σ_2) fun t28 =>
    Do (aUn Go.Proofs.Try.prog .not t28) fun t29 =>
    aCond t29
      (Do (loadA true 4 t7 σ_2) fun t32 =>
      Do (aIndexAddr .slice 4 s0 s5) fun t33 =>
      storeA 4 t33 t32 σ_2 fun u_1 σ_3 =>
      Do (aBin Go.Proofs.Try.prog .add 3 s5 (.val (.int .i64 1))) fun t35 =>
      Do (aBin Go.Proofs.Try.prog .add 3 s6 (.val (.int .i64 1))) fun t21 =>
    go [s0, s1, t35, t21] σ_3)
      (Do (aBin Go.Proofs.Try.prog .add 3 s6 (.val (.int .i64 1))) fun t21_1 =>
    go [s0, s1, s5, t21_1] σ_2))
      (Do (aSlice .slice 4 s0 (some s5) none none) fun t38 =>
  aHook (eClear Go.Proofs.Try.prog 22 t38 σ) fun u_2 σ_4 =>
  Do (aSlice .slice 4 s0 none (some s5) none) fun t41 =>
  Q (.ret t41) σ_4))
    [a0, a1, t10, t15] σ)
theorem slices_DeleteFunc.eq (a0 a1 : AV) (σ : Store) (Q : AEnd → Store → Prop) : vc (semOf Go.Proofs.Try.prog slices_DeleteFunc.mark) Go.Proofs.Try.f55.ntmps slices_DeleteFunc.ann (bodyOf Go.Proofs.Try.f55) (endK [.tmp 4] Q) (argFr [a0, a1]) σ = slices_DeleteFunc.sh a0 a1 σ Q := by kernel_rfl
theorem slices_DeleteFunc.go {a0 a1 : AV} {σ : Store} {Q : AEnd → Store → Prop} (h : slices_DeleteFunc.sh a0 a1 σ Q) : ACalls Go.Proofs.Try.prog 55 [a0, a1] σ Q :=
  acalls_of_eq [.tmp 4] Go.Proofs.Try.func55 (by kernel_rfl) (by kernel_rfl) (by kernel_rfl) (by kernel_rfl) (slices_DeleteFunc.eq a0 a1 σ Q) h
instance : RowT Go.Proofs.Try.prog 22 54 [.string ⟨#[]⟩, .string ⟨#[]⟩, .bool false, .int .i64 0] 4 48 := ⟨by kernel_rfl⟩
theorem idx_cases (p : En → Bool) : ∀ l : List En, (idx p l = -1 ∧ l.filter (fun e => !p e) = l) ∨ ∃ i : Nat, idx p l = i ∧ i < l.length ∧ (l.take (i + 1)).filter (fun e => !p e) = l.take i
  | [] => .inl ⟨rfl, rfl⟩
  | a :: l => by
    by_cases ha : p a = true
    · refine .inr ⟨0, by simp [idx, ha], by simp, by simp [ha]⟩
    · rcases idx_cases p l with ⟨h1, h2⟩ | ⟨i, h1, h2, h3⟩
      · refine .inl ⟨by simp [idx, ha, h1], ?_⟩
        rw [List.filter_cons_of_pos (by simpa using ha), h2]
      · refine .inr ⟨i + 1, ?_, by simpa using h2, ?_⟩
        · simp only [idx, ha, Bool.false_eq_true, if_false, h1]
          rw [if_neg (by omega)]
          rfl
        · rw [List.take_succ_cons, List.filter_cons_of_pos (by simpa using ha), h3, List.take_succ_cons]
theorem Sub.own_sub {σ : Store} {v : Value} {n sz : Nat} {us us' : List AV} (h : Sub σ us σ us') : Sub σ (.own v n :: us) σ (.sub v sz 0 n :: us') := by
  refine Sub.trans (Sub.cons_same _ h) (Sub.vals ⟨fun R x hx => ?_, SubVs.refl _⟩)
  obtain ⟨rfl, hr⟩ := hx.own_inv
  refine .sub ?_
  rcases hr with ⟨rfl, rfl⟩ | ⟨g, cap, rfl, hle⟩
  · exact .inl ⟨rfl, rfl, rfl, rfl⟩
  · exact .inr ⟨g, n, cap, ⟨g, 0, none⟩, rfl, by omega, fun _ => by simp, rfl⟩
instance (priority := 40) predLook {g : AV} {p : En → Bool} [hg : Pred Go.Proofs.Try.prog g p] {e : En} {σ : Store} {K : AV → Prop} : Stp (Do (lookV Go.Proofs.Try.prog g [e.av] σ) K) (K (B (p e))) := ⟨fun hK => by
  obtain ⟨f, a, b, args1, h1, h2, h3⟩ := hg.h e
  refine ⟨_, ?_, hK⟩
  unfold lookV
  rw [h1]
  exact ⟨σ, args1, Sub.vals h2, h3, (inferInstance : Ground (B (p e))).g⟩⟩
theorem Delete_ok (g : AV) (p : En → Bool) (hg : Pred Go.Proofs.Try.prog g p) (l : List En) (v : Value) (hl : l.length ≤ 1000000000) : ACalls Go.Proofs.Try.prog 55 [.own v l.length, g] [.row v 54 4 (l.map En.av) 0]
    fun x σ' => ∃ l' : List En, (l'.length = l.length ∧ l'.take (l.filter fun e => !p e).length = l.filter fun e => !p e) ∧ x = .ret (.sub v 4 0 (l.filter fun e => !p e).length) ∧ σ' = [.row v 54 4 (l'.map En.av) 0] := by
  refine ACalls.fin (slices_DeleteFunc.go ?_)
  unfold slices_DeleteFunc.sh
  rcases idx_cases p l with ⟨h, hf⟩ | ⟨i0, h, hi0, hf⟩
  · repeat' (first | with_reducible apply Stp.go | with_reducible refine imp fun _ => ?_ | (with_reducible refine hyp ?_ ?_; first | assumption | exact leftT_mem (by assumption)) | (with_reducible refine need ?_ ?_; first | trivial | omega | exact ⟨by assumption, by omega⟩ | (simp only [List.length_append, List.length_cons, List.length_nil, List.length_map, List.length_take, List.length_drop, List.length_replicate, List.length_set]; omega)) | (with_reducible refine fact ?_ ?_; first | trivial | exact ⟨rfl, rfl⟩ | kernel_rfl) | with_reducible refine choT (by assumption) ?_ | with_reducible refine choF (by assumption) ?_ | with_reducible refine choF' (by assumption) ?_ | (with_reducible refine altT ?_ ?_; first | omega | (simp only [List.length_append, List.length_cons, List.length_nil, List.length_map, List.length_take, List.length_drop, List.length_replicate, List.length_set]; omega)) | with_reducible refine altF ?_ | with_reducible refine all fun _ => ?_ | with_reducible refine both ?_ ?_ | (with_reducible refine choT ?_ ?_; omega) | (with_reducible refine choF ?_ ?_; omega) | with_reducible refine cho (fun _ => ?_) (fun _ => ?_))
    · refine ⟨_, _, _, rfl, Sub.own_sub (sz := 4) (Sub.refl _ _), l, ⟨rfl, ?_⟩, ?_, rfl⟩
      · rw [hf, List.take_length]
      · rw [hf]
  · repeat' (first | with_reducible apply Stp.go | with_reducible refine imp fun _ => ?_ | (with_reducible refine hyp ?_ ?_; first | assumption | exact leftT_mem (by assumption)) | (with_reducible refine need ?_ ?_; first | trivial | omega | exact ⟨by assumption, by omega⟩ | (simp only [List.length_append, List.length_cons, List.length_nil, List.length_map, List.length_take, List.length_drop, List.length_replicate, List.length_set]; omega)) | (with_reducible refine fact ?_ ?_; first | trivial | exact ⟨rfl, rfl⟩ | kernel_rfl) | with_reducible refine choT (by assumption) ?_ | with_reducible refine choF (by assumption) ?_ | with_reducible refine choF' (by assumption) ?_ | (with_reducible refine altT ?_ ?_; first | omega | (simp only [List.length_append, List.length_cons, List.length_nil, List.length_map, List.length_take, List.length_drop, List.length_replicate, List.length_set]; omega)) | with_reducible refine altF ?_ | with_reducible refine all fun _ => ?_ | with_reducible refine both ?_ ?_ | (with_reducible refine choT ?_ ?_; omega) | (with_reducible refine choF ?_ ?_; omega) | with_reducible refine cho (fun _ => ?_) (fun _ => ?_))
    · rw [h]
      refine loopI (β := Nat × Nat × List En) (fun x => x.1 < x.2.1 ∧ x.2.1 ≤ l.length ∧ x.2.2.length = l.length ∧ x.2.2.drop x.2.1 = l.drop x.2.1 ∧ x.2.2.take x.1 = (l.take x.2.1).filter fun e => !p e)
        (fun x => [.own v l.length, g, I .i64 (x.1 : Nat), I .i64 (x.2.1 : Nat)]) (fun x => [.row v 54 4 (x.2.2.map En.av) 0]) (fun x => l.length - x.2.1) (i0, i0 + 1, l) ⟨by dsimp only; omega, by dsimp only; omega, rfl, rfl, hf.symm⟩ (Sub.refl _ _) ?_
      rintro ⟨i, j, l'⟩ ⟨h1, h2, h3, h4, h5⟩
      dsimp only at h1 h2 h3 h4 h5 ⊢
      by_cases hlt : j < l.length
      · have e1 : l'.getD j default = l.getD j default := by
          have := congrArg (fun x => x.getD 0 default) h4
          simpa [List.getD_eq_getElem?_getD, List.getElem?_drop] using this
        have e2 : (l.take (j + 1)).filter (fun e => !p e) = (l.take j).filter (fun e => !p e) ++ (if p (l.getD j default) = true then [] else [l.getD j default]) := by
          rw [take_succ_d hlt, List.filter_append]
          generalize l.getD j default = y
          cases hd : p y <;> simp [hd]
        have e3 : l'.drop (j + 1) = l.drop (j + 1) := by
          have := congrArg (List.drop 1) h4
          simpa [List.drop_drop] using this
        rw [← e1] at e2
        repeat' (first | with_reducible apply Stp.go | with_reducible refine imp fun _ => ?_ | (with_reducible refine hyp ?_ ?_; first | assumption | exact leftT_mem (by assumption)) | (with_reducible refine need ?_ ?_; first | trivial | omega | exact ⟨by assumption, by omega⟩ | (simp only [List.length_append, List.length_cons, List.length_nil, List.length_map, List.length_take, List.length_drop, List.length_replicate, List.length_set]; omega)) | (with_reducible refine fact ?_ ?_; first | trivial | exact ⟨rfl, rfl⟩ | kernel_rfl) | with_reducible refine choT (by assumption) ?_ | with_reducible refine choF (by assumption) ?_ | with_reducible refine choF' (by assumption) ?_ | (with_reducible refine altT ?_ ?_; first | omega | (simp only [List.length_append, List.length_cons, List.length_nil, List.length_map, List.length_take, List.length_drop, List.length_replicate, List.length_set]; omega)) | with_reducible refine altF ?_ | with_reducible refine all fun _ => ?_ | with_reducible refine both ?_ ?_ | (with_reducible refine choT ?_ ?_; omega) | (with_reducible refine choF ?_ ?_; omega) | with_reducible refine cho (fun _ => ?_) (fun _ => ?_))
        · rename_i hd
          refine again (i, j + 1, l') (by dsimp only; omega) ⟨by dsimp only; omega, by dsimp only; omega, h3, e3, ?_⟩ (subS _)
          rw [e2, if_pos hd, List.append_nil]
          exact h5
        · rename_i hd
          refine again (i + 1, j + 1, l'.set i (l'.getD j default)) (by dsimp only; omega) ⟨by dsimp only; omega, by dsimp only; omega, by simpa using h3, ?_, ?_⟩ (subS _)
          · dsimp only
            rw [List.drop_set, if_pos (by omega), e3]
          · dsimp only
            rw [e2, if_neg hd, ← h5, List.take_set, List.take_succ_eq_append_getElem (by omega), List.set_append]
            simp [List.length_take, Nat.min_eq_left (show i ≤ l'.length by omega)]
      · have hj : j = l.length := by omega
        subst hj
        rw [List.take_length] at h5
        have hi : (l.filter fun e => !p e).length = i := by rw [← h5]; simp; omega
        repeat' (first | with_reducible apply Stp.go | with_reducible refine imp fun _ => ?_ | (with_reducible refine hyp ?_ ?_; first | assumption | exact leftT_mem (by assumption)) | (with_reducible refine need ?_ ?_; first | trivial | omega | exact ⟨by assumption, by omega⟩ | (simp only [List.length_append, List.length_cons, List.length_nil, List.length_map, List.length_take, List.length_drop, List.length_replicate, List.length_set]; omega)) | (with_reducible refine fact ?_ ?_; first | trivial | exact ⟨rfl, rfl⟩ | kernel_rfl) | with_reducible refine choT (by assumption) ?_ | with_reducible refine choF (by assumption) ?_ | with_reducible refine choF' (by assumption) ?_ | (with_reducible refine altT ?_ ?_; first | omega | (simp only [List.length_append, List.length_cons, List.length_nil, List.length_map, List.length_take, List.length_drop, List.length_replicate, List.length_set]; omega)) | with_reducible refine altF ?_ | with_reducible refine all fun _ => ?_ | with_reducible refine both ?_ ?_ | (with_reducible refine choT ?_ ?_; omega) | (with_reducible refine choF ?_ ?_; omega) | with_reducible refine cho (fun _ => ?_) (fun _ => ?_))
        refine ⟨_, _, _, rfl, Sub.refl _ _, _, ⟨?_, ?_⟩, by rw [hi], rfl⟩
        · simp only [List.length_append, List.length_take, List.length_replicate, List.length_drop]
          omega
        · rw [hi, List.append_assoc, List.take_append_of_le_length (by simp; omega), List.take_take, Nat.min_self, h5]
instance {g : AV} {p : En → Bool} [hg : Pred Go.Proofs.Try.prog g p] {l : List En} {v : Value} {n : Nat} {σ : Store} : EQ Go.Proofs.Try.prog 55 [.own v n, g] (.row v 54 4 (l.map En.av) 0 :: σ) (n = l.length ∧ l.length ≤ 1000000000) (List En)
    (fun l' => l'.length = l.length ∧ l'.take (l.filter fun e => !p e).length = l.filter fun e => !p e) (fun _ => .sub v 4 0 (l.filter fun e => !p e).length) (fun l' => .row v 54 4 (l'.map En.av) 0 :: σ) := ⟨fun ⟨h1, h2⟩ => by
  subst h1
  exact ((Delete_ok g p hg l v h2).frame σ).mono fun x τ ⟨σ1, e1, _, y, e2, e3, e4⟩ => ⟨y, e2, e3, by rw [e1, e4]; rfl⟩⟩
end Go.Ab

/- Reading numbers and texts. -/
set_option linter.unusedVariables false
set_option linter.unusedSimpArgs false
namespace Go.Ab
def codec_Get.mark : Mark := ⟨fun t => false, fun t => false, fun t => false, fun t => Nat.beq t 18, fun t => false⟩
def codec_Get.ann : Ann := ⟨fun n => bif Nat.beq n 3 then [5, 12, 13, 14] else [], fun n => none, fun n => none⟩
/-- 'marlstone/codec.Get' -/
def codec_Get.sh (a0 : AV) (σ : Store) (Q : AEnd → Store → Prop) : Prop :=
  Do (aBuiltin Go.Proofs.Try.prog .len #[27] [a0]) fun t10 =>
  Do (aBuiltin Go.Proofs.Try.prog .min #[3, 3] [t10, (.val (.int .i64 10))]) fun t11 =>
  Do (aSlice .slice 1 a0 none (some t11) none) fun t12 =>
  Do (aBuiltin Go.Proofs.Try.prog .len #[27] [t12]) fun t13 =>
  aLoop (fun go vs σ =>
    At vs 0 fun s5 => At vs 1 fun s12 => At vs 2 fun s13 => At vs 3 fun s14 => Do (aBin Go.Proofs.Try.prog .lss 3 s14 s13) fun t15 =>
    aCond t15
      (Do (aIndexAddr .slice 1 s12 s14) fun t17 =>
    Do (loadF false 1 t17) fun t18 =>
    Do (aBin Go.Proofs.Try.prog .eql 3 s14 (.val (.int .i64 9))) fun t20 =>
    Do (aGuard t20 true (aIs t18)) fun t22 =>
    Do (aGuard t20 true (aBin Go.Proofs.Try.prog .gtr 5 t22 (W8 1))) fun t23 =>
    Do (aPick t20 t23 (.val (.bool false))) fun t24 =>
    Do (aGuard t24 false (aIs s14)) fun t26 =>
    Do (aGuard t24 false (aBin Go.Proofs.Try.prog .gtr 3 t26 (.val (.int .i64 0)))) fun t27 =>
    Do (aGuard t24 false (aIs t27)) fun t28 =>
    Do (aGuard t28 true (aIs t18)) fun t29 =>
    Do (aGuard t28 true (aBin Go.Proofs.Try.prog .eql 5 t29 (W8 0))) fun t30 =>
    Do (aGuard t24 false (aPick t28 t30 (.val (.bool false)))) fun t31 =>
    Do (aPick t24 (.val (.bool true)) t31) fun t32 =>
    aCond t32
      (Q (.ret (.tuple [(W64 0), (.val (.int .i64 0)), (.val (.bool false))])) σ)
      (Do (aBin Go.Proofs.Try.prog .and 5 t18 (W8 127)) fun t35 =>
    Do (fun x => aConvN 5 143 t35 x Go.Proofs.Try.prog) fun t36 =>
    Do (aBin Go.Proofs.Try.prog .mul 3 (.val (.int .i64 7)) s14) fun t38 =>
    Do (aBin Go.Proofs.Try.prog .shl 143 t36 t38) fun t39 =>
    Do (aBin Go.Proofs.Try.prog .or 143 s5 t39) fun t40 =>
    Do (aBin Go.Proofs.Try.prog .lss 5 t18 (W8 128)) fun t42 =>
    aCond t42
      (Do (aBin Go.Proofs.Try.prog .add 3 s14 (.val (.int .i64 1))) fun t45 =>
      Q (.ret (.tuple [t40, t45, (.val (.bool true))])) σ)
      (Do (aBin Go.Proofs.Try.prog .add 3 s14 (.val (.int .i64 1))) fun t46 =>
    go [t40, s12, s13, t46] σ)))
      (Q (.ret (.tuple [(W64 0), (.val (.int .i64 0)), (.val (.bool false))])) σ))
    [(W64 0), t12, t13, (.val (.int .i64 0))] σ
theorem codec_Get.eq (a0 : AV) (σ : Store) (Q : AEnd → Store → Prop) : vc (semOf Go.Proofs.Try.prog codec_Get.mark) Go.Proofs.Try.f128.ntmps codec_Get.ann (bodyOf Go.Proofs.Try.f128) (endK [.tmp 2, .tmp 3, .tmp 4] Q) (argFr [a0]) σ = codec_Get.sh a0 σ Q := by kernel_rfl
theorem codec_Get.go {a0 : AV} {σ : Store} {Q : AEnd → Store → Prop} (h : codec_Get.sh a0 σ Q) : ACalls Go.Proofs.Try.prog 128 [a0] σ Q :=
  acalls_of_eq [.tmp 2, .tmp 3, .tmp 4] Go.Proofs.Try.func128 (by kernel_rfl) (by kernel_rfl) (by kernel_rfl) (by kernel_rfl) (codec_Get.eq a0 σ Q) h
def ref01_Get.mark : Mark := ⟨fun t => false, fun t => false, fun t => false, fun t => false, fun t => false⟩
def ref01_Get.ann : Ann := ⟨fun n => bif Nat.beq n 3 then [0, 5, 6] else [], fun n => none, fun n => none⟩
theorem getT (s : List UInt8) {i : Nat} (h : i < s.length) (v : Nat) : getA (s.drop i) i v = (if 10 ≤ i ∨ (i = 9 ∧ 1 < (s.getD i 0).toNat) ∨ (0 < i ∧ (s.getD i 0).toNat = 0) then none
    else if (s.getD i 0).toNat < 128 then some (v + (s.getD i 0).toNat % 128 * 128 ^ i, i + 1) else getA (s.drop (i + 1)) (i + 1) (v + (s.getD i 0).toNat % 128 * 128 ^ i)) := by
  have e := drop_cons_d h
  have e2 : s.getD i default = s.getD i 0 := rfl
  rw [e, e2, getA]
theorem g_fail {l : List UInt8} (h : getG l = none) : AEnd.ret (.tuple [W64 0, I .i64 0, B false]) = .ret (.tuple [W64 (UInt64.ofNat (getV l)), I .i64 (getN l : Nat), B (getO l)]) := by
  simp [getV, getN, getO, h]
theorem g_done {l : List UInt8} {x : UInt64} {n : Nat} (h : getG l = some (x.toNat, n)) : AEnd.ret (.tuple [W64 x, I .i64 (n : Nat), B true]) = .ret (.tuple [W64 (UInt64.ofNat (getV l)), I .i64 (getN l : Nat), B (getO l)]) := by
  simp [getV, getN, getO, h]
theorem and127 (c : UInt8) : (c &&& 127).toNat = c.toNat % 128 := by
  rw [UInt8.toNat_and]
  exact Nat.and_two_pow_sub_one_eq_mod c.toNat 7
theorem pow_step {v c i : Nat} (hv : v < 128 ^ i) (hc : c < 128) : v + c * 128 ^ i < 128 ^ (i + 1) := by
  have h1 : c * 128 ^ i ≤ 127 * 128 ^ i := Nat.mul_le_mul_right _ (by omega)
  rw [Nat.pow_succ]
  omega
theorem codec_Get_ok (l : List UInt8) (m : SM) (hl : l.length ≤ 1000000000000000) : aPure Go.Proofs.Try.prog 128 [.lst 1 (l.map byt) m] (.tuple [W64 (UInt64.ofNat (getV l)), I .i64 (getN l : Nat), B (getO l)]) := by
  refine codec_Get.go ?_
  unfold codec_Get.sh
  repeat' (first | with_reducible apply Stp.go | with_reducible refine imp fun _ => ?_ | (with_reducible refine hyp ?_ ?_; first | assumption | exact leftT_mem (by assumption)) | (with_reducible refine need ?_ ?_; first | trivial | omega | exact ⟨by assumption, by omega⟩ | (simp only [List.length_append, List.length_cons, List.length_nil, List.length_map, List.length_take, List.length_drop, List.length_replicate, List.length_set]; omega)) | (with_reducible refine fact ?_ ?_; first | trivial | exact ⟨rfl, rfl⟩ | kernel_rfl) | with_reducible refine choT (by assumption) ?_ | with_reducible refine choF (by assumption) ?_ | with_reducible refine choF' (by assumption) ?_ | (with_reducible refine altT ?_ ?_; first | omega | (simp only [List.length_append, List.length_cons, List.length_nil, List.length_map, List.length_take, List.length_drop, List.length_replicate, List.length_set]; omega)) | with_reducible refine altF ?_ | with_reducible refine all fun _ => ?_ | with_reducible refine both ?_ ?_ | (with_reducible refine choT ?_ ?_; omega) | (with_reducible refine choF ?_ ?_; omega) | with_reducible refine cho (fun _ => ?_) (fun _ => ?_))
  refine loopI (β := Nat × UInt64) (fun x => x.1 ≤ min l.length 10 ∧ x.2.toNat < 128 ^ x.1 ∧ getG l = getA (l.drop x.1) x.1 x.2.toNat) (fun x => [W64 x.2, .lst 1 ((l.take (min l.length 10)).map byt) .ro, I .i64 (min l.length 10 : Nat), I .i64 (x.1 : Nat)]) (fun _ => []) (fun x => min l.length 10 - x.1) (0, 0) ⟨Nat.zero_le _, by decide, rfl⟩ ?_ ?_
  · rw [List.length_take, Nat.min_eq_left (Nat.min_le_left _ _)]
    exact Sub.refl _ _
  rintro ⟨i, w⟩ ⟨hi, hw, hg⟩
  dsimp only at hi hw hg ⊢
  by_cases hlt : i < min l.length 10
  · rw [getT l (by omega)] at hg
    have ht : (l.take (min l.length 10)).getD i default = l.getD i 0 := by rw [List.getD_eq_getElem?_getD, List.getD_eq_getElem?_getD, List.getElem?_take, if_pos hlt]; rfl
    have hb := fun h9 => or_bits (c := (l.getD i 0).toNat % 128) (i := i) (w := w) (by omega) hw (Nat.mod_lt _ (by decide)) h9
    have hp := pow_step (c := (l.getD i 0).toNat % 128) hw (Nat.mod_lt _ (by decide))
    repeat' (first | with_reducible apply Stp.go | with_reducible refine imp fun _ => ?_ | (with_reducible refine hyp ?_ ?_; first | assumption | exact leftT_mem (by assumption)) | (with_reducible refine need ?_ ?_; first | trivial | omega | exact ⟨by assumption, by omega⟩ | (simp only [List.length_append, List.length_cons, List.length_nil, List.length_map, List.length_take, List.length_drop, List.length_replicate, List.length_set]; omega)) | (with_reducible refine fact ?_ ?_; first | trivial | exact ⟨rfl, rfl⟩ | kernel_rfl) | with_reducible refine choT (by assumption) ?_ | with_reducible refine choF (by assumption) ?_ | with_reducible refine choF' (by assumption) ?_ | (with_reducible refine altT ?_ ?_; first | omega | (simp only [List.length_append, List.length_cons, List.length_nil, List.length_map, List.length_take, List.length_drop, List.length_replicate, List.length_set]; omega)) | with_reducible refine altF ?_ | with_reducible refine all fun _ => ?_ | with_reducible refine both ?_ ?_ | (with_reducible refine choT ?_ ?_; omega) | (with_reducible refine choF ?_ ?_; omega) | with_reducible refine cho (fun _ => ?_) (fun _ => ?_))
    all_goals simp only [ht, and127] at *
    all_goals
      first
      | (refine ⟨g_fail ?_, by trivial⟩; rw [hg, if_pos (by omega)])
      | (refine ⟨g_done ?_, by trivial⟩; rw [hg, if_neg (by omega), if_pos (by omega), hb (by omega)])
      | (rw [if_neg (by omega), if_neg (by omega), ← hb (by omega)] at hg
         rw [← hb (by omega)] at hp
         exact again (i + 1, _) (by dsimp only; omega) ⟨by dsimp only; omega, hp, hg⟩ (Sub.refl _ _))
  · have hn : getG l = none := by
      rw [hg]
      rcases Nat.lt_or_ge i 10 with h | h
      · rw [List.drop_eq_nil_of_le (by omega)]
        rfl
      · exact getA_ge _ _ h
    repeat' (first | with_reducible apply Stp.go | with_reducible refine imp fun _ => ?_ | (with_reducible refine hyp ?_ ?_; first | assumption | exact leftT_mem (by assumption)) | (with_reducible refine need ?_ ?_; first | trivial | omega | exact ⟨by assumption, by omega⟩ | (simp only [List.length_append, List.length_cons, List.length_nil, List.length_map, List.length_take, List.length_drop, List.length_replicate, List.length_set]; omega)) | (with_reducible refine fact ?_ ?_; first | trivial | exact ⟨rfl, rfl⟩ | kernel_rfl) | with_reducible refine choT (by assumption) ?_ | with_reducible refine choF (by assumption) ?_ | with_reducible refine choF' (by assumption) ?_ | (with_reducible refine altT ?_ ?_; first | omega | (simp only [List.length_append, List.length_cons, List.length_nil, List.length_map, List.length_take, List.length_drop, List.length_replicate, List.length_set]; omega)) | with_reducible refine altF ?_ | with_reducible refine all fun _ => ?_ | with_reducible refine both ?_ ?_ | (with_reducible refine choT ?_ ?_; omega) | (with_reducible refine choF ?_ ?_; omega) | with_reducible refine cho (fun _ => ?_) (fun _ => ?_))
    exact ⟨g_fail hn, by trivial⟩
instance {a : AV} {l : List UInt8} {m : SM} [h : IsL a byt 1 l m] : PC Go.Proofs.Try.prog 128 [a] (l.length ≤ 1000000000000000) (.tuple [W64 (UInt64.ofNat (getV l)), I .i64 (getN l : Nat), B (getO l)]) := ⟨fun hl => ⟨[.lst 1 (l.map byt) m], ⟨h.sub, trivial⟩, codec_Get_ok l m hl⟩⟩
def codec_Text.mark : Mark := ⟨fun t => Nat.beq t 11, fun t => false, fun t => false, fun t => false, fun t => false⟩
def codec_Text.ann : Ann := ⟨fun n => [], fun n => none, fun n => none⟩
/-- 'marlstone/codec.Text' -/
def codec_Text.sh (a0 : AV) (σ : Store) (Q : AEnd → Store → Prop) : Prop :=
  Do (aPureC Go.Proofs.Try.prog 128 [a0]) fun t11 =>
  Do (aExt t11 0) fun t12 =>
  Do (aExt t11 1) fun t13 =>
  Do (aExt t11 2) fun t14 =>
  Do (aUn Go.Proofs.Try.prog .not t14) fun t16 =>
  Do (aGuard t16 false (aIs t12)) fun t18 =>
  Do (aGuard t16 false (aIs a0)) fun t19 =>
  Do (aGuard t16 false (aBuiltin Go.Proofs.Try.prog .len #[27] [t19])) fun t20 =>
  Do (aGuard t16 false (aIs t13)) fun t21 =>
  Do (aGuard t16 false (aBin Go.Proofs.Try.prog .sub 3 t20 t21)) fun t22 =>
  Do (aGuard t16 false (fun x => aConvN 3 143 t22 x Go.Proofs.Try.prog)) fun t23 =>
  Do (aGuard t16 false (aBin Go.Proofs.Try.prog .gtr 143 t18 t23)) fun t24 =>
  Do (aPick t16 (.val (.bool true)) t24) fun t25 =>
  aCond t25
    (Q (.ret (.tuple [(.val (.string ⟨#[]⟩)), (.val (.int .i64 0)), (.val (.bool false))])) σ)
    (Do (fun x => aConvN 143 3 t12 x Go.Proofs.Try.prog) fun t28 =>
  Do (aBin Go.Proofs.Try.prog .add 3 t13 t28) fun t29 =>
  Do (aSlice .slice 1 a0 (some t13) (some t29) none) fun t33 =>
  Do (aConvBS t33) fun t34 =>
  Q (.ret (.tuple [t34, t29, (.val (.bool true))])) σ)
theorem codec_Text.eq (a0 : AV) (σ : Store) (Q : AEnd → Store → Prop) : vc (semOf Go.Proofs.Try.prog codec_Text.mark) Go.Proofs.Try.f129.ntmps codec_Text.ann (bodyOf Go.Proofs.Try.f129) (endK [.tmp 2, .tmp 3, .tmp 4] Q) (argFr [a0]) σ = codec_Text.sh a0 σ Q := by kernel_rfl
theorem codec_Text.go {a0 : AV} {σ : Store} {Q : AEnd → Store → Prop} (h : codec_Text.sh a0 σ Q) : ACalls Go.Proofs.Try.prog 129 [a0] σ Q :=
  acalls_of_eq [.tmp 2, .tmp 3, .tmp 4] Go.Proofs.Try.func129 (by kernel_rfl) (by kernel_rfl) (by kernel_rfl) (by kernel_rfl) (codec_Text.eq a0 σ Q) h
def ref01_Text.mark : Mark := ⟨fun t => Nat.beq t 10, fun t => false, fun t => false, fun t => false, fun t => false⟩
def ref01_Text.ann : Ann := ⟨fun n => [], fun n => none, fun n => none⟩
theorem textG_eq (l : List UInt8) : textG l = if getO l = true then (if l.length - getN l < getV l then none else some ((l.drop (getN l)).take (getV l), getN l + getV l)) else none := by
  unfold textG getO getN getV
  cases getG l with
  | none => rfl
  | some r => rfl
theorem t_fail {l : List UInt8} (h : textG l = none) : AEnd.ret (.tuple [.val (.string ⟨#[]⟩), I .i64 0, B false]) = .ret (.tuple [S (textV l), I .i64 (textN l : Nat), B (textO l)]) := by
  simp [textV, textN, textO, h]
theorem t_done {l t : List UInt8} {n : Nat} (h : textG l = some (t, n)) : AEnd.ret (.tuple [S t, I .i64 (n : Nat), B true]) = .ret (.tuple [S (textV l), I .i64 (textN l : Nat), B (textO l)]) := by
  simp [textV, textN, textO, h]
theorem codec_Text_ok (l : List UInt8) (m : SM) (hl : l.length ≤ 1000000000000000) : aPure Go.Proofs.Try.prog 129 [.lst 1 (l.map byt) m] (.tuple [S (textV l), I .i64 (textN l : Nat), B (textO l)]) := by
  refine codec_Text.go ?_
  unfold codec_Text.sh
  obtain ⟨b1, b2, b3, b4⟩ := get_bound (s := l)
  have hu := u64_len b1
  repeat' (first | with_reducible apply Stp.go | with_reducible refine imp fun _ => ?_ | (with_reducible refine hyp ?_ ?_; first | assumption | exact leftT_mem (by assumption)) | (with_reducible refine need ?_ ?_; first | trivial | omega | exact ⟨by assumption, by omega⟩ | (simp only [List.length_append, List.length_cons, List.length_nil, List.length_map, List.length_take, List.length_drop, List.length_replicate, List.length_set]; omega)) | (with_reducible refine fact ?_ ?_; first | trivial | exact ⟨rfl, rfl⟩ | kernel_rfl) | with_reducible refine choT (by assumption) ?_ | with_reducible refine choF (by assumption) ?_ | with_reducible refine choF' (by assumption) ?_ | (with_reducible refine altT ?_ ?_; first | omega | (simp only [List.length_append, List.length_cons, List.length_nil, List.length_map, List.length_take, List.length_drop, List.length_replicate, List.length_set]; omega)) | with_reducible refine altF ?_ | with_reducible refine all fun _ => ?_ | with_reducible refine both ?_ ?_ | (with_reducible refine choT ?_ ?_; omega) | (with_reducible refine choF ?_ ?_; omega) | with_reducible refine cho (fun _ => ?_) (fun _ => ?_))
  · rename_i h1 h2
    refine ⟨t_fail ?_, rfl⟩
    rw [textG_eq, if_pos h1, if_pos (by omega)]
  · rename_i h1 h2
    rw [Nat.mod_eq_of_lt b1]
    refine ⟨t_done ?_, rfl⟩
    rw [textG_eq, if_pos h1, if_neg (by omega), List.drop_take, Nat.add_sub_cancel_left]
  · rename_i h1
    refine ⟨t_fail ?_, rfl⟩
    rw [textG_eq, if_neg h1]
instance {a : AV} {l : List UInt8} {m : SM} [h : IsL a byt 1 l m] : PC Go.Proofs.Try.prog 129 [a] (l.length ≤ 1000000000000000) (.tuple [S (textV l), I .i64 (textN l : Nat), B (textO l)]) := ⟨fun hl => ⟨[.lst 1 (l.map byt) m], ⟨h.sub, trivial⟩, codec_Text_ok l m hl⟩⟩
end Go.Ab

/- Reading an entry. -/
set_option linter.unusedVariables false
set_option linter.unusedSimpArgs false
namespace Go.Ab
def entry_reader_number.mark : Mark := ⟨fun t => Nat.beq t 16, fun t => false, fun t => false, fun t => false, fun t => false⟩
def entry_reader_number.ann : Ann := ⟨fun n => [], fun n => none, fun n => none⟩
/-- '(*marlstone/entry.reader).number' -/
def entry_reader_number.sh (a0 : AV) (σ : Store) (Q : AEnd → Store → Prop) : Prop :=
  Do (aNil a0) fun t8 =>
  Do (aFieldAddr 0 1 t8) fun t9 =>
  Do (loadA false 1 t9 σ) fun t10 =>
  Do (aNil a0) fun t12 =>
  Do (aFieldAddr 1 1 t12) fun t13 =>
  Do (loadA false 1 t13 σ) fun t14 =>
  Do (aSlice .slice 1 t10 (some t14) none none) fun t15 =>
  Do (aPureC Go.Proofs.Try.prog 128 [t15]) fun t16 =>
  Do (aExt t16 0) fun t17 =>
  Do (aExt t16 1) fun t18 =>
  Do (aExt t16 2) fun t19 =>
  Do (aNil a0) fun t21 =>
  Do (aFieldAddr 1 1 t21) fun t22 =>
  Do (loadA false 1 t22 σ) fun t23 =>
  Do (aBin Go.Proofs.Try.prog .add 3 t23 t18) fun t25 =>
  Do (aNil a0) fun t26 =>
  Do (aFieldAddr 1 1 t26) fun t27 =>
  storeA 1 t27 t25 σ fun u σ =>
  Do (aNil a0) fun t30 =>
  Do (aFieldAddr 2 1 t30) fun t31 =>
  Do (loadA false 1 t31 σ) fun t32 =>
  Do (aGuard t32 false (aIs t19)) fun t34 =>
  Do (aGuard t32 false (aUn Go.Proofs.Try.prog .not t34)) fun t35 =>
  Do (aPick t32 (.val (.bool true)) t35) fun t36 =>
  Do (aNil a0) fun t37 =>
  Do (aFieldAddr 2 1 t37) fun t38 =>
  storeA 1 t38 t36 σ fun u_1 σ_1 =>
  Q (.ret t17) σ_1
theorem entry_reader_number.eq (a0 : AV) (σ : Store) (Q : AEnd → Store → Prop) : vc (semOf Go.Proofs.Try.prog entry_reader_number.mark) Go.Proofs.Try.f114.ntmps entry_reader_number.ann (bodyOf Go.Proofs.Try.f114) (endK [.tmp 2] Q) (argFr [a0]) σ = entry_reader_number.sh a0 σ Q := by kernel_rfl
theorem entry_reader_number.go {a0 : AV} {σ : Store} {Q : AEnd → Store → Prop} (h : entry_reader_number.sh a0 σ Q) : ACalls Go.Proofs.Try.prog 114 [a0] σ Q :=
  acalls_of_eq [.tmp 2] Go.Proofs.Try.func114 (by kernel_rfl) (by kernel_rfl) (by kernel_rfl) (by kernel_rfl) (entry_reader_number.eq a0 σ Q) h
def entry_reader_text.mark : Mark := ⟨fun t => Nat.beq t 16, fun t => false, fun t => false, fun t => false, fun t => false⟩
def entry_reader_text.ann : Ann := ⟨fun n => [], fun n => none, fun n => none⟩
/-- '(*marlstone/entry.reader).text' -/
def entry_reader_text.sh (a0 : AV) (σ : Store) (Q : AEnd → Store → Prop) : Prop :=
  Do (aNil a0) fun t8 =>
  Do (aFieldAddr 0 1 t8) fun t9 =>
  Do (loadA false 1 t9 σ) fun t10 =>
  Do (aNil a0) fun t12 =>
  Do (aFieldAddr 1 1 t12) fun t13 =>
  Do (loadA false 1 t13 σ) fun t14 =>
  Do (aSlice .slice 1 t10 (some t14) none none) fun t15 =>
  Do (aPureC Go.Proofs.Try.prog 129 [t15]) fun t16 =>
  Do (aExt t16 0) fun t17 =>
  Do (aExt t16 1) fun t18 =>
  Do (aExt t16 2) fun t19 =>
  Do (aNil a0) fun t21 =>
  Do (aFieldAddr 1 1 t21) fun t22 =>
  Do (loadA false 1 t22 σ) fun t23 =>
  Do (aBin Go.Proofs.Try.prog .add 3 t23 t18) fun t25 =>
  Do (aNil a0) fun t26 =>
  Do (aFieldAddr 1 1 t26) fun t27 =>
  storeA 1 t27 t25 σ fun u σ =>
  Do (aNil a0) fun t30 =>
  Do (aFieldAddr 2 1 t30) fun t31 =>
  Do (loadA false 1 t31 σ) fun t32 =>
  Do (aGuard t32 false (aIs t19)) fun t34 =>
  Do (aGuard t32 false (aUn Go.Proofs.Try.prog .not t34)) fun t35 =>
  Do (aPick t32 (.val (.bool true)) t35) fun t36 =>
  Do (aNil a0) fun t37 =>
  Do (aFieldAddr 2 1 t37) fun t38 =>
  storeA 1 t38 t36 σ fun u_1 σ_1 =>
  Q (.ret t17) σ_1
theorem entry_reader_text.eq (a0 : AV) (σ : Store) (Q : AEnd → Store → Prop) : vc (semOf Go.Proofs.Try.prog entry_reader_text.mark) Go.Proofs.Try.f115.ntmps entry_reader_text.ann (bodyOf Go.Proofs.Try.f115) (endK [.tmp 2] Q) (argFr [a0]) σ = entry_reader_text.sh a0 σ Q := by kernel_rfl
theorem entry_reader_text.go {a0 : AV} {σ : Store} {Q : AEnd → Store → Prop} (h : entry_reader_text.sh a0 σ Q) : ACalls Go.Proofs.Try.prog 115 [a0] σ Q :=
  acalls_of_eq [.tmp 2] Go.Proofs.Try.func115 (by kernel_rfl) (by kernel_rfl) (by kernel_rfl) (by kernel_rfl) (entry_reader_text.eq a0 σ Q) h
theorem number_ok (b : Nat) (l : List UInt8) (m : SM) (at_ : Nat) (w : Bool) (hl : l.length ≤ 1000000000000000) (ha : at_ ≤ l.length) : ACalls Go.Proofs.Try.prog 114 [ptrAt b 0] [.var b 158 [.lst 1 (l.map byt) m, I .i64 (at_ : Nat), B w]]
    fun x σ' => x = .ret (W64 (UInt64.ofNat (getV (l.drop at_)))) ∧ σ' = [.var b 158 [.lst 1 (l.map byt) m, I .i64 ((at_ + getN (l.drop at_) : Nat) : Int), B (w || !getO (l.drop at_))]] := by
  refine entry_reader_number.go ?_
  unfold entry_reader_number.sh
  obtain ⟨b1, b2, b3, b4⟩ := get_bound (s := l.drop at_)
  rw [List.length_drop] at b3
  repeat' (first | with_reducible apply Stp.go | with_reducible refine imp fun _ => ?_ | (with_reducible refine hyp ?_ ?_; first | assumption | exact leftT_mem (by assumption)) | (with_reducible refine need ?_ ?_; first | trivial | omega | exact ⟨by assumption, by omega⟩ | (simp only [List.length_append, List.length_cons, List.length_nil, List.length_map, List.length_take, List.length_drop, List.length_replicate, List.length_set]; omega)) | (with_reducible refine fact ?_ ?_; first | trivial | exact ⟨rfl, rfl⟩ | kernel_rfl) | with_reducible refine choT (by assumption) ?_ | with_reducible refine choF (by assumption) ?_ | with_reducible refine choF' (by assumption) ?_ | (with_reducible refine altT ?_ ?_; first | omega | (simp only [List.length_append, List.length_cons, List.length_nil, List.length_map, List.length_take, List.length_drop, List.length_replicate, List.length_set]; omega)) | with_reducible refine altF ?_ | with_reducible refine all fun _ => ?_ | with_reducible refine both ?_ ?_ | (with_reducible refine choT ?_ ?_; omega) | (with_reducible refine choF ?_ ?_; omega) | with_reducible refine cho (fun _ => ?_) (fun _ => ?_))
  all_goals
    refine ⟨rfl, ?_⟩
    simp_all
instance {b at_ : Nat} {l : List UInt8} {m : SM} {w : Bool} {x : Int} {σ rest : Store} {put : Ent → Store} [hv : VarAt b σ 158 [.lst 1 (l.map byt) m, .val (.int .i64 x), B w] put rest] [hx : NatOf x at_] : EC Go.Proofs.Try.prog 114 [ptrAt b 0] σ (l.length ≤ 1000000000000000 ∧ at_ ≤ l.length) Unit
    (fun _ => W64 (UInt64.ofNat (getV (l.drop at_)))) (fun _ => put (.var b 158 [.lst 1 (l.map byt) m, I .i64 ((at_ + getN (l.drop at_) : Nat) : Int), B (w || !getO (l.drop at_))])) := ⟨fun ⟨h1, h2⟩ => by
  have e := hx.eq
  subst e
  exact (ACalls.at_ (number_ok b l m at_ w h1 h2)).mono fun x σ' ⟨g1, g2⟩ => ⟨(), g1, g2⟩⟩
theorem text_ok (b : Nat) (l : List UInt8) (m : SM) (at_ : Nat) (w : Bool) (hl : l.length ≤ 1000000000000000) (ha : at_ ≤ l.length) : ACalls Go.Proofs.Try.prog 115 [ptrAt b 0] [.var b 158 [.lst 1 (l.map byt) m, I .i64 (at_ : Nat), B w]]
    fun x σ' => x = .ret (S (textV (l.drop at_))) ∧ σ' = [.var b 158 [.lst 1 (l.map byt) m, I .i64 ((at_ + textN (l.drop at_) : Nat) : Int), B (w || !textO (l.drop at_))]] := by
  refine entry_reader_text.go ?_
  unfold entry_reader_text.sh
  obtain ⟨b1, b2, b3⟩ := text_bound (s := l.drop at_)
  rw [List.length_drop] at b1
  repeat' (first | with_reducible apply Stp.go | with_reducible refine imp fun _ => ?_ | (with_reducible refine hyp ?_ ?_; first | assumption | exact leftT_mem (by assumption)) | (with_reducible refine need ?_ ?_; first | trivial | omega | exact ⟨by assumption, by omega⟩ | (simp only [List.length_append, List.length_cons, List.length_nil, List.length_map, List.length_take, List.length_drop, List.length_replicate, List.length_set]; omega)) | (with_reducible refine fact ?_ ?_; first | trivial | exact ⟨rfl, rfl⟩ | kernel_rfl) | with_reducible refine choT (by assumption) ?_ | with_reducible refine choF (by assumption) ?_ | with_reducible refine choF' (by assumption) ?_ | (with_reducible refine altT ?_ ?_; first | omega | (simp only [List.length_append, List.length_cons, List.length_nil, List.length_map, List.length_take, List.length_drop, List.length_replicate, List.length_set]; omega)) | with_reducible refine altF ?_ | with_reducible refine all fun _ => ?_ | with_reducible refine both ?_ ?_ | (with_reducible refine choT ?_ ?_; omega) | (with_reducible refine choF ?_ ?_; omega) | with_reducible refine cho (fun _ => ?_) (fun _ => ?_))
  all_goals
    refine ⟨rfl, ?_⟩
    simp_all
instance {b at_ : Nat} {l : List UInt8} {m : SM} {w : Bool} {x : Int} {σ rest : Store} {put : Ent → Store} [hv : VarAt b σ 158 [.lst 1 (l.map byt) m, .val (.int .i64 x), B w] put rest] [hx : NatOf x at_] : EC Go.Proofs.Try.prog 115 [ptrAt b 0] σ (l.length ≤ 1000000000000000 ∧ at_ ≤ l.length) Unit
    (fun _ => S (textV (l.drop at_))) (fun _ => put (.var b 158 [.lst 1 (l.map byt) m, I .i64 ((at_ + textN (l.drop at_) : Nat) : Int), B (w || !textO (l.drop at_))])) := ⟨fun ⟨h1, h2⟩ => by
  have e := hx.eq
  subst e
  exact (ACalls.at_ (text_ok b l m at_ w h1 h2)).mono fun x σ' ⟨g1, g2⟩ => ⟨(), g1, g2⟩⟩
def entry_Parse.mark : Mark := ⟨fun t => Nat.beq t 45, fun t => false, fun t => false, fun t => Nat.beq t 14 || Nat.beq t 27, fun t => false⟩
def entry_Parse.ann : Ann := ⟨fun n => [], fun n => bif Nat.beq n 8 then some [2, 5, 7] else none, fun n => bif Nat.beq n 5 then some [2, 5, 7] else bif Nat.beq n 10 then some [2, 3, 4] else none⟩
/-- 'marlstone/entry.Parse' -/
def entry_Parse.sh (a0 : AV) (σ : Store) (Q : AEnd → Store → Prop) : Prop :=
  aNewVar 54 [.val (.string ⟨#[]⟩), .val (.string ⟨#[]⟩), .val (.bool false), .val (.int .i64 0)] σ fun t2 σ =>
  Do (aBuiltin Go.Proofs.Try.prog .len #[27] [a0]) fun t9 =>
  Do (aBin Go.Proofs.Try.prog .eql 3 t9 (.val (.int .i64 0))) fun t10 =>
  Do (aGuard t10 false (aIs a0)) fun t12 =>
  Do (aGuard t10 false (aIndexAddr .slice 1 t12 (.val (.int .i64 0)))) fun t13 =>
  Do (aGuard t10 false (loadF false 1 t13)) fun t14 =>
  Do (aGuard t10 false (aBin Go.Proofs.Try.prog .gtr 5 t14 (W8 1))) fun t15 =>
  Do (aPick t10 (.val (.bool true)) t15) fun t16 =>
  aCond t16
    (Do (aLit [.val (.string ⟨#[]⟩), .val (.string ⟨#[]⟩), .val (.bool false), .val (.int .i64 0)] [(0, 1), (1, 1), (2, 1), (3, 1)] []) fun t17 =>
    storeA 4 t2 t17 σ fun u σ_1 =>
    Do (loadA true 4 t2 σ_1) fun r2 => Q (.ret (.tuple [r2, (.val (.int .i64 0)), (.val (.int .i64 2))])) σ_1)
    (Do (aLit [.val (.slice none 0 0), .val (.int .i64 0), .val (.bool false)] [(0, 1), (1, 1), (2, 1)] [(0, a0), (1, (.val (.int .i64 1)))]) fun t19 =>
  aNewVar 158 (t19 : AV).cells σ fun t20 σ_2 =>
  aCall Go.Proofs.Try.prog 114 [t20] σ_2 (fun t22 σ_3 =>
  aJoin (fun j =>
    Do (aIndexAddr .slice 1 a0 (.val (.int .i64 0))) fun t26 =>
    Do (loadF false 1 t26) fun t27 =>
    Do (aBin Go.Proofs.Try.prog .eql 5 t27 (W8 1)) fun t28 =>
    Do (aBuiltin Go.Proofs.Try.prog .min #[143, 143] [t22, (W64 1099511627777)]) fun t30 =>
    Do (fun x => aConvN 143 3 t30 x Go.Proofs.Try.prog) fun t31 =>
    Both (aCall Go.Proofs.Try.prog 115 [t20] σ_3 (fun t24 σ_5 =>
    Do (aLit [.val (.string ⟨#[]⟩), .val (.string ⟨#[]⟩), .val (.bool false), .val (.int .i64 0)] [(0, 1), (1, 1), (2, 1), (3, 1)] [(0, t24), (2, t28), (3, t31)]) fun t32 =>
    aNewVar 54 [.val (.string ⟨#[]⟩), .val (.string ⟨#[]⟩), .val (.bool false), .val (.int .i64 0)] σ_5 fun t7 σ_6 =>
    storeA 4 t7 t32 σ_6 fun u_1 σ_7 =>
    j [t2, t20, t7] σ_7) (fun e σ_8 => Q (.pan e) σ_8)) (aNewVar 54 [.val (.string ⟨#[]⟩), .val (.string ⟨#[]⟩), .val (.bool false), .val (.int .i64 0)] σ_3 fun t7_1 σ_9 =>
    aCall Go.Proofs.Try.prog 115 [t20] σ_9 (fun t24_1 σ_10 =>
    Do (aLit [.val (.string ⟨#[]⟩), .val (.string ⟨#[]⟩), .val (.bool false), .val (.int .i64 0)] [(0, 1), (1, 1), (2, 1), (3, 1)] [(0, t24_1), (2, t28), (3, t31)]) fun t32_1 =>
    storeA 4 t7_1 t32_1 σ_10 fun u_2 σ_11 =>
    j [t2, t20, t7_1] σ_11) (fun e_1 σ_12 => Q (.pan e_1) σ_12))) fun vs σ_4 =>
  At vs 0 fun s2 => At vs 1 fun s5 => At vs 2 fun s7 => aJoin (fun j_1 =>
    Do (aFieldAddr 2 1 s7) fun t33 =>
    Do (loadA false 1 t33 σ_4) fun t34 =>
    Do (aUn Go.Proofs.Try.prog .not t34) fun t35 =>
    aCond t35
      (aCall Go.Proofs.Try.prog 115 [s5] σ_4 (fun t37 σ_14 =>
      Do (aFieldAddr 1 1 s7) fun t38 =>
      storeA 1 t38 t37 σ_14 fun u_3 σ_15 =>
      j_1 [s2, s5, s7] σ_15) (fun e_2 σ_16 => Q (.pan e_2) σ_16))
      (j_1 [s2, s5, s7] σ_4)) fun vs_1 σ_13 =>
  At vs_1 0 fun s2_1 => At vs_1 1 fun s5_1 => At vs_1 2 fun s7_1 => Do (aNil s5_1) fun t40 =>
  Do (aFieldAddr 2 1 t40) fun t41 =>
  Do (loadA false 1 t41 σ_13) fun t42 =>
  Do (aGuard t42 false (loadA true 4 s7_1 σ_13)) fun t44 =>
  Do (aGuard t42 false (aPureC Go.Proofs.Try.prog 61 [t44])) fun t45 =>
  Do (aGuard t42 false (aUn Go.Proofs.Try.prog .not t45)) fun t46 =>
  Do (aPick t42 (.val (.bool true)) t46) fun t47 =>
  aCond t47
    (Do (aLit [.val (.string ⟨#[]⟩), .val (.string ⟨#[]⟩), .val (.bool false), .val (.int .i64 0)] [(0, 1), (1, 1), (2, 1), (3, 1)] []) fun t48 =>
    storeA 4 s2_1 t48 σ_13 fun u_4 σ_17 =>
    Do (loadA true 4 s2_1 σ_17) fun r2_1 => Q (.ret (.tuple [r2_1, (.val (.int .i64 0)), (.val (.int .i64 2))])) σ_17)
    (aJoin (fun j_2 =>
    Do (loadA true 4 s7_1 σ_13) fun t49 =>
    Do (aNil s5_1) fun t51 =>
    Do (aFieldAddr 1 1 t51) fun t52 =>
    Both (Do (loadA false 1 t52 σ_13) fun t53 =>
    storeA 4 s2_1 t49 σ_13 fun u_5 σ_19 =>
    j_2 [s2_1, t53, (.val (.int .i64 0))] σ_19) (storeA 4 s2_1 t49 σ_13 fun u_6 σ_20 =>
    Do (loadA false 1 t52 σ_20) fun t53_1 =>
    j_2 [s2_1, t53_1, (.val (.int .i64 0))] σ_20)) fun vs_2 σ_18 =>
  At vs_2 0 fun s2_2 => At vs_2 1 fun s3 => At vs_2 2 fun s4 => Do (loadA true 4 s2_2 σ_18) fun r2_2 => Q (.ret (.tuple [r2_2, s3, s4])) σ_18)) (fun e_3 σ_21 => Q (.pan e_3) σ_21))
theorem entry_Parse.eq (a0 : AV) (σ : Store) (Q : AEnd → Store → Prop) : vc (semOf Go.Proofs.Try.prog entry_Parse.mark) Go.Proofs.Try.f93.ntmps entry_Parse.ann (bodyOf Go.Proofs.Try.f93) (endK [.cell 2 true 4, .tmp 3, .tmp 4] Q) (argFr [a0]) σ = entry_Parse.sh a0 σ Q := by kernel_rfl
theorem entry_Parse.go {a0 : AV} {σ : Store} {Q : AEnd → Store → Prop} (h : entry_Parse.sh a0 σ Q) : ACalls Go.Proofs.Try.prog 93 [a0] σ Q :=
  acalls_of_eq [.cell 2 true 4, .tmp 3, .tmp 4] Go.Proofs.Try.func93 (by kernel_rfl) (by kernel_rfl) (by kernel_rfl) (by kernel_rfl) (entry_Parse.eq a0 σ Q) h
def ref03_Parse.mark : Mark := ⟨fun t => Nat.beq t 28 || Nat.beq t 45 || Nat.beq t 69 || Nat.beq t 82, fun t => false, fun t => false, fun t => false, fun t => false⟩
def ref03_Parse.ann : Ann := ⟨fun n => [], fun n => bif Nat.beq n 18 then some [2, 8, 12] else none, fun n => none⟩
theorem p_fail {l : List UInt8} (h : parseE l = none) : AEnd.ret (.tuple [En.zero.av, I .i64 0, I .i64 2]) = .ret (.tuple [(parseV l).av, I .i64 (parseN l : Nat), I .i64 (parseX l)]) := by
  simp [parseV, parseN, parseX, h]
theorem p_done {l : List UInt8} {e : En} {n : Nat} (h : parseE l = some (e, n)) : AEnd.ret (.tuple [e.av, I .i64 (n : Nat), I .i64 0]) = .ret (.tuple [(parseV l).av, I .i64 (parseN l : Nat), I .i64 (parseX l)]) := by
  simp [parseV, parseN, parseX, h]
theorem entry_Parse_ok (l : List UInt8) (m : SM) (hl : l.length ≤ 1000000000000000) : aPure Go.Proofs.Try.prog 93 [.lst 1 (l.map byt) m] (.tuple [(parseV l).av, I .i64 (parseN l : Nat), I .i64 (parseX l)]) := by
  refine ACalls.fin (entry_Parse.go ?_)
  unfold entry_Parse.sh
  obtain ⟨b1, b2, b3, b4⟩ := get_bound (s := l.drop 1)
  obtain ⟨c1, c2, c3⟩ := text_bound (s := l.drop (1 + getN (l.drop 1)))
  obtain ⟨d1, d2, d3⟩ := text_bound (s := l.drop (1 + getN (l.drop 1) + textN (l.drop (1 + getN (l.drop 1)))))
  rw [List.length_drop] at b3 c1 d1
  repeat' (first | with_reducible apply Stp.go | with_reducible refine imp fun _ => ?_ | (with_reducible refine hyp ?_ ?_; first | assumption | exact leftT_mem (by assumption)) | (with_reducible refine need ?_ ?_; first | trivial | omega | exact ⟨by assumption, by omega⟩ | (simp only [List.length_append, List.length_cons, List.length_nil, List.length_map, List.length_take, List.length_drop, List.length_replicate, List.length_set]; omega)) | (with_reducible refine fact ?_ ?_; first | trivial | exact ⟨rfl, rfl⟩ | kernel_rfl) | with_reducible refine choT (by assumption) ?_ | with_reducible refine choF (by assumption) ?_ | with_reducible refine choF' (by assumption) ?_ | (with_reducible refine altT ?_ ?_; first | omega | (simp only [List.length_append, List.length_cons, List.length_nil, List.length_map, List.length_take, List.length_drop, List.length_replicate, List.length_set]; omega)) | with_reducible refine altF ?_ | with_reducible refine all fun _ => ?_ | with_reducible refine both ?_ ?_ | (with_reducible refine choT ?_ ?_; omega) | (with_reducible refine choF ?_ ?_; omega) | with_reducible refine cho (fun _ => ?_) (fun _ => ?_))
  · rename_i h0
    refine ⟨_, _, _, rfl, Sub.app_nil _, p_fail ?_, rfl⟩
    rw [parseE, if_pos (.inl (List.length_eq_zero_iff.1 h0))]
  · rename_i h0 h1
    refine ⟨_, _, _, rfl, Sub.app_nil _, p_fail ?_, rfl⟩
    rw [parseE, if_pos (.inr h1)]
  · rename_i r2 h0 h1 r _
    have hmin : (if (UInt64.ofNat (getV (l.drop 1))).toNat ≤ UInt64.toNat 1099511627777 then UInt64.ofNat (getV (l.drop 1)) else 1099511627777).toNat = min (getV (l.drop 1)) 1099511627777 := by
      have e := u64_len b1
      have e2 : UInt64.toNat 1099511627777 = 1099511627777 := rfl
      rw [e, e2]
      split
      · rw [e]; omega
      · rw [e2]; omega
    refine joinI (β := Nat) (fun _ => True) (fun b => [ptrAt r2 0, ptrAt r 0, ptrAt b 0]) (fun b => [.var r 158 [.lst 1 (l.map byt) m, I .i64 ((1 + getN (l.drop 1) + textN (l.drop (1 + getN (l.drop 1))) : Nat) : Int), B (!getO (l.drop 1) || !textO (l.drop (1 + getN (l.drop 1))))], .var r2 54 En.zero.cs,
      .var b 54 (En.cs ⟨textV (l.drop (1 + getN (l.drop 1))), [], decide ((l.getD 0 default).toNat = 1), (min (getV (l.drop 1)) 1099511627777 : Nat)⟩)]) ?_ ?_
    · repeat' (first | with_reducible apply Stp.go | with_reducible refine imp fun _ => ?_ | (with_reducible refine hyp ?_ ?_; first | assumption | exact leftT_mem (by assumption)) | (with_reducible refine need ?_ ?_; first | trivial | omega | exact ⟨by assumption, by omega⟩ | (simp only [List.length_append, List.length_cons, List.length_nil, List.length_map, List.length_take, List.length_drop, List.length_replicate, List.length_set]; omega)) | (with_reducible refine fact ?_ ?_; first | trivial | exact ⟨rfl, rfl⟩ | kernel_rfl) | with_reducible refine choT (by assumption) ?_ | with_reducible refine choF (by assumption) ?_ | with_reducible refine choF' (by assumption) ?_ | (with_reducible refine altT ?_ ?_; first | omega | (simp only [List.length_append, List.length_cons, List.length_nil, List.length_map, List.length_take, List.length_drop, List.length_replicate, List.length_set]; omega)) | with_reducible refine altF ?_ | with_reducible refine all fun _ => ?_ | with_reducible refine both ?_ ?_ | (with_reducible refine choT ?_ ?_; omega) | (with_reducible refine choF ?_ ?_; omega) | with_reducible refine cho (fun _ => ?_) (fun _ => ?_))
      all_goals try rw [hmin]
      repeat' (first | with_reducible apply Stp.go | with_reducible refine imp fun _ => ?_ | (with_reducible refine hyp ?_ ?_; first | assumption | exact leftT_mem (by assumption)) | (with_reducible refine need ?_ ?_; first | trivial | omega | exact ⟨by assumption, by omega⟩ | (simp only [List.length_append, List.length_cons, List.length_nil, List.length_map, List.length_take, List.length_drop, List.length_replicate, List.length_set]; omega)) | (with_reducible refine fact ?_ ?_; first | trivial | exact ⟨rfl, rfl⟩ | kernel_rfl) | with_reducible refine choT (by assumption) ?_ | with_reducible refine choF (by assumption) ?_ | with_reducible refine choF' (by assumption) ?_ | (with_reducible refine altT ?_ ?_; first | omega | (simp only [List.length_append, List.length_cons, List.length_nil, List.length_map, List.length_take, List.length_drop, List.length_replicate, List.length_set]; omega)) | with_reducible refine altF ?_ | with_reducible refine all fun _ => ?_ | with_reducible refine both ?_ ?_ | (with_reducible refine choT ?_ ?_; omega) | (with_reducible refine choF ?_ ?_; omega) | with_reducible refine cho (fun _ => ?_) (fun _ => ?_))
      all_goals try rw [hmin]
      all_goals try rw [Bool.false_or]
      all_goals exact meet _ trivial (subS _)
    · intro b _
      repeat' (first | with_reducible apply Stp.go | with_reducible refine imp fun _ => ?_ | (with_reducible refine hyp ?_ ?_; first | assumption | exact leftT_mem (by assumption)) | (with_reducible refine need ?_ ?_; first | trivial | omega | exact ⟨by assumption, by omega⟩ | (simp only [List.length_append, List.length_cons, List.length_nil, List.length_map, List.length_take, List.length_drop, List.length_replicate, List.length_set]; omega)) | (with_reducible refine fact ?_ ?_; first | trivial | exact ⟨rfl, rfl⟩ | kernel_rfl) | with_reducible refine choT (by assumption) ?_ | with_reducible refine choF (by assumption) ?_ | with_reducible refine choF' (by assumption) ?_ | (with_reducible refine altT ?_ ?_; first | omega | (simp only [List.length_append, List.length_cons, List.length_nil, List.length_map, List.length_take, List.length_drop, List.length_replicate, List.length_set]; omega)) | with_reducible refine altF ?_ | with_reducible refine all fun _ => ?_ | with_reducible refine both ?_ ?_ | (with_reducible refine choT ?_ ?_; omega) | (with_reducible refine choF ?_ ?_; omega) | with_reducible refine cho (fun _ => ?_) (fun _ => ?_))
      refine joinE ?_
      repeat' (first | with_reducible apply Stp.go | with_reducible refine imp fun _ => ?_ | (with_reducible refine hyp ?_ ?_; first | assumption | exact leftT_mem (by assumption)) | (with_reducible refine need ?_ ?_; first | trivial | omega | exact ⟨by assumption, by omega⟩ | (simp only [List.length_append, List.length_cons, List.length_nil, List.length_map, List.length_take, List.length_drop, List.length_replicate, List.length_set]; omega)) | (with_reducible refine fact ?_ ?_; first | trivial | exact ⟨rfl, rfl⟩ | kernel_rfl) | with_reducible refine choT (by assumption) ?_ | with_reducible refine choF (by assumption) ?_ | with_reducible refine choF' (by assumption) ?_ | (with_reducible refine altT ?_ ?_; first | omega | (simp only [List.length_append, List.length_cons, List.length_nil, List.length_map, List.length_take, List.length_drop, List.length_replicate, List.length_set]; omega)) | with_reducible refine altF ?_ | with_reducible refine all fun _ => ?_ | with_reducible refine both ?_ ?_ | (with_reducible refine choT ?_ ?_; omega) | (with_reducible refine choF ?_ ?_; omega) | with_reducible refine cho (fun _ => ?_) (fun _ => ?_))
      all_goals try refine joinE ?_
      repeat' (first | with_reducible apply Stp.go | with_reducible refine imp fun _ => ?_ | (with_reducible refine hyp ?_ ?_; first | assumption | exact leftT_mem (by assumption)) | (with_reducible refine need ?_ ?_; first | trivial | omega | exact ⟨by assumption, by omega⟩ | (simp only [List.length_append, List.length_cons, List.length_nil, List.length_map, List.length_take, List.length_drop, List.length_replicate, List.length_set]; omega)) | (with_reducible refine fact ?_ ?_; first | trivial | exact ⟨rfl, rfl⟩ | kernel_rfl) | with_reducible refine choT (by assumption) ?_ | with_reducible refine choF (by assumption) ?_ | with_reducible refine choF' (by assumption) ?_ | (with_reducible refine altT ?_ ?_; first | omega | (simp only [List.length_append, List.length_cons, List.length_nil, List.length_map, List.length_take, List.length_drop, List.length_replicate, List.length_set]; omega)) | with_reducible refine altF ?_ | with_reducible refine all fun _ => ?_ | with_reducible refine both ?_ ?_ | (with_reducible refine choT ?_ ?_; omega) | (with_reducible refine choF ?_ ?_; omega) | with_reducible refine cho (fun _ => ?_) (fun _ => ?_))
      · rename_i hd hw
        exact ⟨_, _, _, rfl, Sub.app_nil _, p_fail (parse_fail1 hw), rfl⟩
      · rename_i hd hw hr
        exact ⟨_, _, _, rfl, Sub.app_nil _, p_done (by rw [parse_del h0 h1 hd hw, if_pos hr]), rfl⟩
      · rename_i hd hw hr
        exact ⟨_, _, _, rfl, Sub.app_nil _, p_done (by rw [parse_del h0 h1 hd hw, if_pos hr]), rfl⟩
      · rename_i hd hw hr
        exact ⟨_, _, _, rfl, Sub.app_nil _, p_fail (by rw [parse_del h0 h1 hd hw, if_neg hr]), rfl⟩
      · rename_i hd _ hw
        exact ⟨_, _, _, rfl, Sub.app_nil _, p_fail (parse_fail2 hd hw), rfl⟩
      · rename_i hd _ hw hr
        exact ⟨_, _, _, rfl, Sub.app_nil _, p_done (by rw [parse_val h0 h1 hd hw, if_pos hr]), rfl⟩
      · rename_i hd _ hw hr
        exact ⟨_, _, _, rfl, Sub.app_nil _, p_done (by rw [parse_val h0 h1 hd hw, if_pos hr]), rfl⟩
      · rename_i hd _ hw hr
        exact ⟨_, _, _, rfl, Sub.app_nil _, p_fail (by rw [parse_val h0 h1 hd hw, if_neg hr]), rfl⟩
instance {a : AV} {l : List UInt8} {m : SM} [h : IsL a byt 1 l m] : PC Go.Proofs.Try.prog 93 [a] (l.length ≤ 1000000000000000) (.tuple [(parseV l).av, I .i64 (parseN l : Nat), I .i64 (parseX l)]) := ⟨fun hl => ⟨[.lst 1 (l.map byt) m], ⟨h.sub, trivial⟩, entry_Parse_ok l m hl⟩⟩
end Go.Ab

/- The entry of a leaf; what a table has of a key, checked. -/
set_option linter.unusedVariables false
set_option linter.unusedSimpArgs false
namespace Go.Ab
def seek_whole.mark : Mark := ⟨fun t => Nat.beq t 9, fun t => false, fun t => false, fun t => false, fun t => false⟩
def seek_whole.ann : Ann := ⟨fun n => [], fun n => none, fun n => none⟩
/-- 'marlstone/seek.whole' -/
def seek_whole.sh (a0 : AV) (σ : Store) (Q : AEnd → Store → Prop) : Prop :=
  aNewVar 54 [.val (.string ⟨#[]⟩), .val (.string ⟨#[]⟩), .val (.bool false), .val (.int .i64 0)] σ fun t2 σ =>
  Do (aPureC Go.Proofs.Try.prog 93 [a0]) fun t9 =>
  Do (aExt t9 0) fun t10 =>
  Do (aExt t9 1) fun t11 =>
  Do (aExt t9 2) fun t12 =>
  aNewVar 54 [.val (.string ⟨#[]⟩), .val (.string ⟨#[]⟩), .val (.bool false), .val (.int .i64 0)] σ fun t4 σ_1 =>
  storeA 4 t4 t10 σ_1 fun u σ_2 =>
  Do (loadA true 4 t4 σ_2) fun t13 =>
  Do (aBin Go.Proofs.Try.prog .eql 33 t12 (.val (.int .i64 0))) fun t15 =>
  Do (aGuard t15 true (aIs t11)) fun t17 =>
  Do (aGuard t15 true (aIs a0)) fun t18 =>
  Do (aGuard t15 true (aBuiltin Go.Proofs.Try.prog .len #[27] [t18])) fun t19 =>
  Do (aGuard t15 true (aBin Go.Proofs.Try.prog .eql 3 t17 t19)) fun t20 =>
  Do (aPick t15 t20 (.val (.bool false))) fun t21 =>
  storeA 4 t2 t13 σ_2 fun u_1 σ_3 =>
  Do (loadA true 4 t2 σ_3) fun r2 => Q (.ret (.tuple [r2, t21])) σ_3
theorem seek_whole.eq (a0 : AV) (σ : Store) (Q : AEnd → Store → Prop) : vc (semOf Go.Proofs.Try.prog seek_whole.mark) Go.Proofs.Try.f52.ntmps seek_whole.ann (bodyOf Go.Proofs.Try.f52) (endK [.cell 2 true 4, .tmp 3] Q) (argFr [a0]) σ = seek_whole.sh a0 σ Q := by kernel_rfl
theorem seek_whole.go {a0 : AV} {σ : Store} {Q : AEnd → Store → Prop} (h : seek_whole.sh a0 σ Q) : ACalls Go.Proofs.Try.prog 52 [a0] σ Q :=
  acalls_of_eq [.cell 2 true 4, .tmp 3] Go.Proofs.Try.func52 (by kernel_rfl) (by kernel_rfl) (by kernel_rfl) (by kernel_rfl) (seek_whole.eq a0 σ Q) h
def seek_none.mark : Mark := ⟨fun t => false, fun t => false, fun t => Nat.beq t 1, fun t => Nat.beq t 4 || Nat.beq t 8 || Nat.beq t 14, fun t => false⟩
def seek_none.ann : Ann := ⟨fun n => [], fun n => none, fun n => none⟩
/-- 'marlstone/seek.none' -/
def seek_none.sh (a0 : AV) (σ : Store) (Q : AEnd → Store → Prop) : Prop :=
  Do (aFreeze ((a0 : AV)).cells) fun t1 =>
  Do (aFieldAddr 0 1 t1) fun t3 =>
  Do (loadF false 1 t3) fun t4 =>
  Do (aBin Go.Proofs.Try.prog .eql 3 t4 (.val (.int .i64 0))) fun t5 =>
  Do (aGuard t5 true (aFieldAddr 1 1 t1)) fun t7 =>
  Do (aGuard t5 true (loadF false 1 t7)) fun t8 =>
  Do (aGuard t5 true (aBuiltin Go.Proofs.Try.prog .len #[27] [t8])) fun t9 =>
  Do (aGuard t5 true (aBin Go.Proofs.Try.prog .eql 3 t9 (.val (.int .i64 0)))) fun t10 =>
  Do (aPick t5 t10 (.val (.bool false))) fun t11 =>
  Do (aGuard t11 true (aFieldAddr 2 1 t1)) fun t13 =>
  Do (aGuard t11 true (loadF false 1 t13)) fun t14 =>
  Do (aGuard t11 true (aBuiltin Go.Proofs.Try.prog .len #[28] [t14])) fun t15 =>
  Do (aGuard t11 true (aBin Go.Proofs.Try.prog .eql 3 t15 (.val (.int .i64 0)))) fun t16 =>
  Do (aPick t11 t16 (.val (.bool false))) fun t17 =>
  Q (.ret t17) σ
theorem seek_none.eq (a0 : AV) (σ : Store) (Q : AEnd → Store → Prop) : vc (semOf Go.Proofs.Try.prog seek_none.mark) Go.Proofs.Try.f50.ntmps seek_none.ann (bodyOf Go.Proofs.Try.f50) (endK [.tmp 2] Q) (argFr [a0]) σ = seek_none.sh a0 σ Q := by kernel_rfl
theorem seek_none.go {a0 : AV} {σ : Store} {Q : AEnd → Store → Prop} (h : seek_none.sh a0 σ Q) : ACalls Go.Proofs.Try.prog 50 [a0] σ Q :=
  acalls_of_eq [.tmp 2] Go.Proofs.Try.func50 (by kernel_rfl) (by kernel_rfl) (by kernel_rfl) (by kernel_rfl) (seek_none.eq a0 σ Q) h
theorem none_ok (o : Opn) : aPure Go.Proofs.Try.prog 50 [.agg [I .i64 o.1, bl o.2.1, .lst 32 (o.2.2.map dgF) .ro]] (B (decide (o.1 = 0 ∧ o.2.1.length = 0 ∧ o.2.2.length = 0))) := by
  refine ACalls.fin (seek_none.go ?_)
  unfold seek_none.sh
  repeat' (first | with_reducible apply Stp.go | with_reducible refine imp fun _ => ?_ | (with_reducible refine hyp ?_ ?_; first | assumption | exact leftT_mem (by assumption)) | (with_reducible refine need ?_ ?_; first | trivial | omega | exact ⟨by assumption, by omega⟩ | (simp only [List.length_append, List.length_cons, List.length_nil, List.length_map, List.length_take, List.length_drop, List.length_replicate, List.length_set]; omega)) | (with_reducible refine fact ?_ ?_; first | trivial | exact ⟨rfl, rfl⟩ | kernel_rfl) | with_reducible refine choT (by assumption) ?_ | with_reducible refine choF (by assumption) ?_ | with_reducible refine choF' (by assumption) ?_ | (with_reducible refine altT ?_ ?_; first | omega | (simp only [List.length_append, List.length_cons, List.length_nil, List.length_map, List.length_take, List.length_drop, List.length_replicate, List.length_set]; omega)) | with_reducible refine altF ?_ | with_reducible refine all fun _ => ?_ | with_reducible refine both ?_ ?_ | (with_reducible refine choT ?_ ?_; omega) | (with_reducible refine choF ?_ ?_; omega) | with_reducible refine cho (fun _ => ?_) (fun _ => ?_))
  all_goals
    refine ⟨_, _, _, rfl, Sub.app_nil _, ?_, rfl⟩
    simp_all
instance {o : Opn} : PC Go.Proofs.Try.prog 50 [.agg [I .i64 o.1, bl o.2.1, .lst 32 (o.2.2.map dgF) .ro]] True (B (decide (o.1 = 0 ∧ o.2.1.length = 0 ∧ o.2.2.length = 0))) := ⟨fun _ => PC.of (none_ok o)⟩
/-- Bytes are one entry, whole. -/
def wholeB (l : List UInt8) : Bool := decide (parseX l = 0) && decide (parseN l = l.length)
theorem whole_ok (l : List UInt8) (m : SM) (hl : l.length ≤ 100000000000000) : aPure Go.Proofs.Try.prog 52 [.lst 1 (l.map byt) m] (.tuple [(parseV l).av, B (wholeB l)]) := by
  refine ACalls.fin (seek_whole.go ?_)
  unfold seek_whole.sh
  repeat' (first | with_reducible apply Stp.go | with_reducible refine imp fun _ => ?_ | (with_reducible refine hyp ?_ ?_; first | assumption | exact leftT_mem (by assumption)) | (with_reducible refine need ?_ ?_; first | trivial | omega | exact ⟨by assumption, by omega⟩ | (simp only [List.length_append, List.length_cons, List.length_nil, List.length_map, List.length_take, List.length_drop, List.length_replicate, List.length_set]; omega)) | (with_reducible refine fact ?_ ?_; first | trivial | exact ⟨rfl, rfl⟩ | kernel_rfl) | with_reducible refine choT (by assumption) ?_ | with_reducible refine choF (by assumption) ?_ | with_reducible refine choF' (by assumption) ?_ | (with_reducible refine altT ?_ ?_; first | omega | (simp only [List.length_append, List.length_cons, List.length_nil, List.length_map, List.length_take, List.length_drop, List.length_replicate, List.length_set]; omega)) | with_reducible refine altF ?_ | with_reducible refine all fun _ => ?_ | with_reducible refine both ?_ ?_ | (with_reducible refine choT ?_ ?_; omega) | (with_reducible refine choF ?_ ?_; omega) | with_reducible refine cho (fun _ => ?_) (fun _ => ?_))
  · rename_i h
    refine ⟨_, _, _, rfl, Sub.app_nil _, ?_, rfl⟩
    rw [wholeB, decide_eq_true h, Bool.true_and]
  · rename_i h
    refine ⟨_, _, _, rfl, Sub.app_nil _, ?_, rfl⟩
    rw [wholeB, decide_eq_false h, Bool.false_and]
instance {a : AV} {l : List UInt8} {m : SM} [h : IsL a byt 1 l m] : PC Go.Proofs.Try.prog 52 [a] (l.length ≤ 100000000000000) (.tuple [(parseV l).av, B (wholeB l)]) := ⟨fun hl => ⟨[.lst 1 (l.map byt) m], ⟨h.sub, trivial⟩, whole_ok l m hl⟩⟩
def seek_holds.mark : Mark := ⟨fun t => Nat.beq t 13 || Nat.beq t 30, fun t => false, fun t => Nat.beq t 3 || Nat.beq t 4 || Nat.beq t 5, fun t => Nat.beq t 12 || Nat.beq t 19 || Nat.beq t 21 || Nat.beq t 23 || Nat.beq t 25 || Nat.beq t 27 || Nat.beq t 29, fun t => false⟩
def seek_holds.ann : Ann := ⟨fun n => [], fun n => none, fun n => none⟩
/-- 'marlstone/seek.holds' -/
def seek_holds.sh (a0 a1 a2 : AV) (σ : Store) (Q : AEnd → Store → Prop) : Prop :=
  Do (aFreeze ((a0 : AV)).cells) fun t3 =>
  Do (aFreeze ((a1 : AV)).cells) fun t4 =>
  Do (aFreeze ((a2 : AV)).cells) fun t5 =>
  aNewVar 54 [.val (.string ⟨#[]⟩), .val (.string ⟨#[]⟩), .val (.bool false), .val (.int .i64 0)] σ fun t6 σ =>
  Do (aFieldAddr 1 1 t5) fun t11 =>
  Do (loadF false 1 t11) fun t12 =>
  Do (aPureC Go.Proofs.Try.prog 52 [t12]) fun t13 =>
  Do (aExt t13 0) fun t14 =>
  Do (aExt t13 1) fun t15 =>
  aNewVar 54 [.val (.string ⟨#[]⟩), .val (.string ⟨#[]⟩), .val (.bool false), .val (.int .i64 0)] σ fun t8 σ_1 =>
  storeA 4 t8 t14 σ_1 fun u σ_2 =>
  Do (loadA true 4 t8 σ_2) fun t16 =>
  Do (aGuard t15 true (loadF true 1 t3)) fun t19 =>
  Do (aGuard t15 true (aFieldAddr 2 32 t4)) fun t20 =>
  Do (aGuard t15 true (loadF true 32 t20)) fun t21 =>
  Do (aGuard t15 true (aFieldAddr 1 1 t4)) fun t22 =>
  Do (aGuard t15 true (loadF false 1 t22)) fun t23 =>
  Do (aGuard t15 true (aFieldAddr 0 1 t5)) fun t24 =>
  Do (aGuard t15 true (loadF false 1 t24)) fun t25 =>
  Do (aGuard t15 true (aFieldAddr 1 1 t5)) fun t26 =>
  Do (aGuard t15 true (loadF false 1 t26)) fun t27 =>
  Do (aGuard t15 true (aFieldAddr 2 1 t5)) fun t28 =>
  Do (aGuard t15 true (loadF false 1 t28)) fun t29 =>
  Do (aGuard t15 true (aPureC Go.Proofs.Try.prog 64 [t19, t21, t23, t25, t27, t29])) fun t30 =>
  Do (aPick t15 t30 (.val (.bool false))) fun t31 =>
  storeA 4 t6 t16 σ_2 fun u_1 σ_3 =>
  Do (loadA true 4 t6 σ_3) fun r6 => Q (.ret (.tuple [r6, t31])) σ_3
theorem seek_holds.eq (a0 a1 a2 : AV) (σ : Store) (Q : AEnd → Store → Prop) : vc (semOf Go.Proofs.Try.prog seek_holds.mark) Go.Proofs.Try.f49.ntmps seek_holds.ann (bodyOf Go.Proofs.Try.f49) (endK [.cell 6 true 4, .tmp 7] Q) (argFr [a0, a1, a2]) σ = seek_holds.sh a0 a1 a2 σ Q := by kernel_rfl
theorem seek_holds.go {a0 a1 a2 : AV} {σ : Store} {Q : AEnd → Store → Prop} (h : seek_holds.sh a0 a1 a2 σ Q) : ACalls Go.Proofs.Try.prog 49 [a0, a1, a2] σ Q :=
  acalls_of_eq [.cell 6 true 4, .tmp 7] Go.Proofs.Try.func49 (by kernel_rfl) (by kernel_rfl) (by kernel_rfl) (by kernel_rfl) (seek_holds.eq a0 a1 a2 σ Q) h
def holdsB (b : Int) (root : D32) (cnt i : Int) (leaf : List UInt8) (path : List D32) : Bool := wholeB leaf && checkZ b root cnt i leaf path
theorem holdsB_in {b : Int} {root : D32} {cnt i : Int} {leaf : List UInt8} {path : List D32} (h : holdsB b root cnt i leaf path = true) : 0 ≤ i ∧ i < cnt := by
  unfold holdsB at h
  rw [Bool.and_eq_true] at h
  exact checkZ_in h.2
theorem holds_ok (b lev cnt i : Int) (d f g leaf : List UInt8) [hd : Len32 d] (path : List D32) (hc : cnt ≤ 9223372036854775807) (hl : leaf.length ≤ 100000000000000) : aPure Go.Proofs.Try.prog 49 [trA b, tabA lev cnt d f g, .agg [I .i64 i, bl leaf, .lst 32 (path.map dgF) .ro]] (.tuple [(parseV leaf).av, B (holdsB b ⟨d, hd.len⟩ cnt i leaf path)]) := by
  refine ACalls.fin (seek_holds.go ?_)
  unfold seek_holds.sh
  cases hw : wholeB leaf with
  | true =>
    have ht : (true : Bool) = true := rfl
    repeat' (first | with_reducible apply Stp.go | with_reducible refine imp fun _ => ?_ | (with_reducible refine hyp ?_ ?_; first | assumption | exact leftT_mem (by assumption)) | (with_reducible refine need ?_ ?_; first | trivial | omega | exact ⟨by assumption, by omega⟩ | (simp only [List.length_append, List.length_cons, List.length_nil, List.length_map, List.length_take, List.length_drop, List.length_replicate, List.length_set]; omega)) | (with_reducible refine fact ?_ ?_; first | trivial | exact ⟨rfl, rfl⟩ | kernel_rfl) | with_reducible refine choT (by assumption) ?_ | with_reducible refine choF (by assumption) ?_ | with_reducible refine choF' (by assumption) ?_ | (with_reducible refine altT ?_ ?_; first | omega | (simp only [List.length_append, List.length_cons, List.length_nil, List.length_map, List.length_take, List.length_drop, List.length_replicate, List.length_set]; omega)) | with_reducible refine altF ?_ | with_reducible refine all fun _ => ?_ | with_reducible refine both ?_ ?_ | (with_reducible refine choT ?_ ?_; omega) | (with_reducible refine choF ?_ ?_; omega) | with_reducible refine cho (fun _ => ?_) (fun _ => ?_))
    refine ⟨_, _, _, rfl, Sub.app_nil _, ?_, rfl⟩
    rw [holdsB, hw, Bool.true_and]
  | false =>
    have hff : ¬ (false : Bool) = true := by decide
    repeat' (first | with_reducible apply Stp.go | with_reducible refine imp fun _ => ?_ | (with_reducible refine hyp ?_ ?_; first | assumption | exact leftT_mem (by assumption)) | (with_reducible refine need ?_ ?_; first | trivial | omega | exact ⟨by assumption, by omega⟩ | (simp only [List.length_append, List.length_cons, List.length_nil, List.length_map, List.length_take, List.length_drop, List.length_replicate, List.length_set]; omega)) | (with_reducible refine fact ?_ ?_; first | trivial | exact ⟨rfl, rfl⟩ | kernel_rfl) | with_reducible refine choT (by assumption) ?_ | with_reducible refine choF (by assumption) ?_ | with_reducible refine choF' (by assumption) ?_ | (with_reducible refine altT ?_ ?_; first | omega | (simp only [List.length_append, List.length_cons, List.length_nil, List.length_map, List.length_take, List.length_drop, List.length_replicate, List.length_set]; omega)) | with_reducible refine altF ?_ | with_reducible refine all fun _ => ?_ | with_reducible refine both ?_ ?_ | (with_reducible refine choT ?_ ?_; omega) | (with_reducible refine choF ?_ ?_; omega) | with_reducible refine cho (fun _ => ?_) (fun _ => ?_))
    refine ⟨_, _, _, rfl, Sub.app_nil _, ?_, rfl⟩
    rw [holdsB, hw, Bool.false_and]
instance {b lev cnt i : Int} {d f g leaf : List UInt8} [hd : Len32 d] {path : List D32} : PC Go.Proofs.Try.prog 49 [trA b, tabA lev cnt d f g, .agg [I .i64 i, bl leaf, .lst 32 (path.map dgF) .ro]] (cnt ≤ 9223372036854775807 ∧ leaf.length ≤ 100000000000000) (.tuple [(parseV leaf).av, B (holdsB b ⟨d, hd.len⟩ cnt i leaf path)]) := ⟨fun hl => PC.of (holds_ok b lev cnt i d f g leaf path hl.1 hl.2)⟩
end Go.Ab

/- What a table has of a key, checked. -/
set_option linter.unusedVariables false
set_option linter.unusedSimpArgs false
namespace Go.Ab
section pts
variable {bt : Bool} {x y : Opn} {lev cnt : Int} {d f g : List UInt8} {K : AV → Prop}
abbrev ptCs (bt : Bool) (x y : Opn) : List AV := [B bt, I .i64 x.1, bl x.2.1, .lst 32 (x.2.2.map dgF) .ro, I .i64 y.1, bl y.2.1, .lst 32 (y.2.2.map dgF) .ro]
abbrev opCs (x : Opn) : List AV := [I .i64 x.1, bl x.2.1, .lst 32 (x.2.2.map dgF) .ro]
instance (priority := 75) faPtA : Stp (Do (aFieldAddr 1 3 (.rptr (ptCs bt x y))) K) (K (.rptr (opCs x))) := ⟨fun hK => ⟨_, ⟨by decide, by simp, rfl⟩, hK⟩⟩
instance (priority := 75) faPtB : Stp (Do (aFieldAddr 4 3 (.rptr (ptCs bt x y))) K) (K (.rptr (opCs y))) := ⟨fun hK => ⟨_, ⟨by decide, by simp, rfl⟩, hK⟩⟩
instance (priority := 75) ldOpn : Stp (Do (loadF true 3 (.rptr (opCs x))) K) (K (.agg (opCs x))) := ⟨fun hK => ⟨_, ⟨by decide, fun h => by (cases h), by simp, rfl⟩, hK⟩⟩
instance (priority := 75) ldTabF [hd : Len32 d] : Stp (Do (loadF true 36 (.rptr (tabCs lev cnt d f g))) K) (K (tabA lev cnt d f g)) := ⟨fun hK => ⟨_, ⟨by decide, fun h => by (cases h), by rw [tabCs_len]; decide, by
  rw [List.take_of_length_le (by rw [tabCs_len]; decide)]; rfl⟩, hK⟩⟩
end pts
theorem lt_flip (a b : List UInt8) : lt a b = !(lt b a || decide (b = a)) := by
  cases h : lt a b with
  | true => rw [lt_asymm h, decide_eq_false (fun e => lt_ne h e.symm)]; rfl
  | false =>
    cases h2 : lt b a with
    | true => rfl
    | false => rw [lt_tri h2 h]; simp
/-- What is told of a key: an error, whether it is there, the entry. -/
def seekC (b : Int) (root : D32) (cnt : Int) (f g k : List UInt8) (bt : Bool) (x y : Opn) : Nat × Bool × En :=
  if holdsB b root cnt x.1 x.2.1 x.2.2 = true ∧ coversB f g k = true then
    if bt = true then
      if holdsB b root cnt y.1 y.2.1 y.2.2 = true ∧ y.1 - 1 = x.1 ∧ lt (parseV x.2.1).key k = true ∧ lt k (parseV y.2.1).key = true then (0, false, En.zero) else (8, false, En.zero)
    else if (parseV x.2.1).key = k ∧ (y.1 = 0 ∧ y.2.1.length = 0 ∧ y.2.2.length = 0) then (0, true, parseV x.2.1) else (8, false, En.zero)
  else (8, false, En.zero)
def seek_Check.mark : Mark := ⟨fun t => Nat.beq t 20 || Nat.beq t 28 || Nat.beq t 42 || Nat.beq t 52, fun t => false, fun t => Nat.beq t 4 || Nat.beq t 5 || Nat.beq t 7, fun t => Nat.beq t 16 || Nat.beq t 17 || Nat.beq t 19 || Nat.beq t 26 || Nat.beq t 33 || Nat.beq t 41 || Nat.beq t 48 || Nat.beq t 49 || Nat.beq t 51 || Nat.beq t 60 || Nat.beq t 64, fun t => false⟩
def seek_Check.ann : Ann := ⟨fun n => [], fun n => none, fun n => none⟩
/-- 'marlstone/seek.Check' -/
def seek_Check.sh (a0 a1 a2 a3 : AV) (σ : Store) (Q : AEnd → Store → Prop) : Prop :=
  Do (aFreeze ((a0 : AV)).cells) fun t4 =>
  Do (aFreeze ((a1 : AV)).cells) fun t5 =>
  Do (aFreeze ((a3 : AV)).cells) fun t7 =>
  aNewVar 54 [.val (.string ⟨#[]⟩), .val (.string ⟨#[]⟩), .val (.bool false), .val (.int .i64 0)] σ fun t8 σ =>
  Do (loadF true 1 t4) fun t16 =>
  Do (loadF true 36 t5) fun t17 =>
  Do (aFieldAddr 1 3 t7) fun t18 =>
  Do (loadF true 3 t18) fun t19 =>
  Do (aPureC Go.Proofs.Try.prog 49 [t16, t17, t19]) fun t20 =>
  Do (aExt t20 0) fun t21 =>
  Do (aExt t20 1) fun t22 =>
  aNewVar 54 [.val (.string ⟨#[]⟩), .val (.string ⟨#[]⟩), .val (.bool false), .val (.int .i64 0)] σ fun t11 σ_1 =>
  storeA 4 t11 t21 σ_1 fun u σ_2 =>
  Do (aUn Go.Proofs.Try.prog .not t22) fun t24 =>
  Do (aGuard t24 false (loadF true 36 t5)) fun t26 =>
  Do (aGuard t24 false (aIs a2)) fun t27 =>
  Do (aGuard t24 false (aPureC Go.Proofs.Try.prog 18 [t26, t27])) fun t28 =>
  Do (aGuard t24 false (aUn Go.Proofs.Try.prog .not t28)) fun t29 =>
  Do (aPick t24 (.val (.bool true)) t29) fun t30 =>
  aCond t30
    (Do (aLit [.val (.string ⟨#[]⟩), .val (.string ⟨#[]⟩), .val (.bool false), .val (.int .i64 0)] [(0, 1), (1, 1), (2, 1), (3, 1)] []) fun t31 =>
    storeA 4 t8 t31 σ_2 fun u_1 σ_3 =>
    Do (loadA true 4 t8 σ_3) fun r8 => Q (.ret (.tuple [r8, (.val (.bool false)), (.val (.int .i64 8))])) σ_3)
    (Do (aFieldAddr 0 1 t7) fun t32 =>
  Do (loadF false 1 t32) fun t33 =>
  Do (aUn Go.Proofs.Try.prog .not t33) fun t34 =>
  aCond t34
    (Do (aFieldAddr 0 1 t11) fun t35 =>
    Do (loadA false 1 t35 σ_2) fun t36 =>
    Do (aBin Go.Proofs.Try.prog .neq 9 t36 a2) fun t38 =>
    Do (aGuard t38 false (aFieldAddr 4 3 t7)) fun t40 =>
    Do (aGuard t38 false (loadF true 3 t40)) fun t41 =>
    Do (aGuard t38 false (aPureC Go.Proofs.Try.prog 50 [t41])) fun t42 =>
    Do (aGuard t38 false (aUn Go.Proofs.Try.prog .not t42)) fun t43 =>
    Do (aPick t38 (.val (.bool true)) t43) fun t44 =>
    aCond t44
      (Do (aLit [.val (.string ⟨#[]⟩), .val (.string ⟨#[]⟩), .val (.bool false), .val (.int .i64 0)] [(0, 1), (1, 1), (2, 1), (3, 1)] []) fun t45 =>
      storeA 4 t8 t45 σ_2 fun u_2 σ_4 =>
      Do (loadA true 4 t8 σ_4) fun r8_1 => Q (.ret (.tuple [r8_1, (.val (.bool false)), (.val (.int .i64 8))])) σ_4)
      (Do (loadA true 4 t11 σ_2) fun t46 =>
    storeA 4 t8 t46 σ_2 fun u_3 σ_5 =>
    Do (loadA true 4 t8 σ_5) fun r8_2 => Q (.ret (.tuple [r8_2, (.val (.bool true)), (.val (.int .i64 0))])) σ_5))
    (Do (loadF true 1 t4) fun t48 =>
  Do (loadF true 36 t5) fun t49 =>
  Do (aFieldAddr 4 3 t7) fun t50 =>
  Do (loadF true 3 t50) fun t51 =>
  Do (aPureC Go.Proofs.Try.prog 49 [t48, t49, t51]) fun t52 =>
  Do (aExt t52 0) fun t53 =>
  Do (aExt t52 1) fun t54 =>
  aNewVar 54 [.val (.string ⟨#[]⟩), .val (.string ⟨#[]⟩), .val (.bool false), .val (.int .i64 0)] σ_2 fun t13 σ_6 =>
  storeA 4 t13 t53 σ_6 fun u_4 σ_7 =>
  Do (aUn Go.Proofs.Try.prog .not t54) fun t56 =>
  Do (aGuard t56 false (aFieldAddr 4 3 t7)) fun t58 =>
  Do (aGuard t56 false (aFieldAddr 0 1 t58)) fun t59 =>
  Do (aGuard t56 false (loadF false 1 t59)) fun t60 =>
  Do (aGuard t56 false (aBin Go.Proofs.Try.prog .sub 3 t60 (.val (.int .i64 1)))) fun t61 =>
  Do (aGuard t56 false (aFieldAddr 1 3 t7)) fun t62 =>
  Do (aGuard t56 false (aFieldAddr 0 1 t62)) fun t63 =>
  Do (aGuard t56 false (loadF false 1 t63)) fun t64 =>
  Do (aGuard t56 false (aBin Go.Proofs.Try.prog .neq 3 t61 t64)) fun t65 =>
  Do (aPick t56 (.val (.bool true)) t65) fun t66 =>
  Do (aGuard t66 false (aFieldAddr 0 1 t11)) fun t68 =>
  Do (aGuard t66 false (loadA false 1 t68 σ_7)) fun t69 =>
  Do (aGuard t66 false (aIs a2)) fun t70 =>
  Do (aGuard t66 false (aBin Go.Proofs.Try.prog .geq 9 t69 t70)) fun t71 =>
  Do (aPick t66 (.val (.bool true)) t71) fun t72 =>
  Do (aGuard t72 false (aFieldAddr 0 1 t13)) fun t74 =>
  Do (aGuard t72 false (loadA false 1 t74 σ_7)) fun t75 =>
  Do (aGuard t72 false (aIs a2)) fun t76 =>
  Do (aGuard t72 false (aBin Go.Proofs.Try.prog .leq 9 t75 t76)) fun t77 =>
  Do (aPick t72 (.val (.bool true)) t77) fun t78 =>
  aCond t78
    (Do (aLit [.val (.string ⟨#[]⟩), .val (.string ⟨#[]⟩), .val (.bool false), .val (.int .i64 0)] [(0, 1), (1, 1), (2, 1), (3, 1)] []) fun t79 =>
    storeA 4 t8 t79 σ_7 fun u_5 σ_8 =>
    Do (loadA true 4 t8 σ_8) fun r8_3 => Q (.ret (.tuple [r8_3, (.val (.bool false)), (.val (.int .i64 8))])) σ_8)
    (Do (aLit [.val (.string ⟨#[]⟩), .val (.string ⟨#[]⟩), .val (.bool false), .val (.int .i64 0)] [(0, 1), (1, 1), (2, 1), (3, 1)] []) fun t80 =>
  storeA 4 t8 t80 σ_7 fun u_6 σ_9 =>
  Do (loadA true 4 t8 σ_9) fun r8_4 => Q (.ret (.tuple [r8_4, (.val (.bool false)), (.val (.int .i64 0))])) σ_9)))
theorem seek_Check.eq (a0 a1 a2 a3 : AV) (σ : Store) (Q : AEnd → Store → Prop) : vc (semOf Go.Proofs.Try.prog seek_Check.mark) Go.Proofs.Try.f23.ntmps seek_Check.ann (bodyOf Go.Proofs.Try.f23) (endK [.cell 8 true 4, .tmp 9, .tmp 10] Q) (argFr [a0, a1, a2, a3]) σ = seek_Check.sh a0 a1 a2 a3 σ Q := by kernel_rfl
theorem seek_Check.go {a0 a1 a2 a3 : AV} {σ : Store} {Q : AEnd → Store → Prop} (h : seek_Check.sh a0 a1 a2 a3 σ Q) : ACalls Go.Proofs.Try.prog 23 [a0, a1, a2, a3] σ Q :=
  acalls_of_eq [.cell 8 true 4, .tmp 9, .tmp 10] Go.Proofs.Try.func23 (by kernel_rfl) (by kernel_rfl) (by kernel_rfl) (by kernel_rfl) (seek_Check.eq a0 a1 a2 a3 σ Q) h
theorem seekCheck_ok (b lev cnt : Int) (d f g k : List UInt8) [hd : Len32 d] (bt : Bool) (x y : Opn) (hc : cnt ≤ 9223372036854775807) (h1 : x.2.1.length ≤ 100000000000000) (h2 : y.2.1.length ≤ 100000000000000) :
    aPure Go.Proofs.Try.prog 23 [trA b, tabA lev cnt d f g, S k, ptA bt x y] (.tuple [(seekC b ⟨d, hd.len⟩ cnt f g k bt x y).2.2.av, B (seekC b ⟨d, hd.len⟩ cnt f g k bt x y).2.1, I .i64 ((seekC b ⟨d, hd.len⟩ cnt f g k bt x y).1 : Nat)]) := by
  refine ACalls.fin (seek_Check.go ?_)
  unfold seek_Check.sh
  unfold seekC
  have ht : (true : Bool) = true := rfl
  have hff : ¬ (false : Bool) = true := by decide
  cases hA : holdsB b ⟨d, hd.len⟩ cnt x.1 x.2.1 x.2.2 with
  | false =>
    rw [if_neg (fun h => hff h.1)]
    repeat' (first | with_reducible apply Stp.go | with_reducible refine imp fun _ => ?_ | (with_reducible refine hyp ?_ ?_; first | assumption | exact leftT_mem (by assumption)) | (with_reducible refine need ?_ ?_; first | trivial | omega | exact ⟨by assumption, by omega⟩ | (simp only [List.length_append, List.length_cons, List.length_nil, List.length_map, List.length_take, List.length_drop, List.length_replicate, List.length_set]; omega)) | (with_reducible refine fact ?_ ?_; first | trivial | exact ⟨rfl, rfl⟩ | kernel_rfl) | with_reducible refine choT (by assumption) ?_ | with_reducible refine choF (by assumption) ?_ | with_reducible refine choF' (by assumption) ?_ | (with_reducible refine altT ?_ ?_; first | omega | (simp only [List.length_append, List.length_cons, List.length_nil, List.length_map, List.length_take, List.length_drop, List.length_replicate, List.length_set]; omega)) | with_reducible refine altF ?_ | with_reducible refine all fun _ => ?_ | with_reducible refine both ?_ ?_ | (with_reducible refine choT ?_ ?_; omega) | (with_reducible refine choF ?_ ?_; omega) | with_reducible refine cho (fun _ => ?_) (fun _ => ?_))
    all_goals exact ⟨_, _, _, rfl, Sub.app_nil _, rfl, rfl⟩
  | true =>
    cases hC : coversB f g k with
    | false =>
      rw [if_neg (fun h => hff h.2)]
      repeat' (first | with_reducible apply Stp.go | with_reducible refine imp fun _ => ?_ | (with_reducible refine hyp ?_ ?_; first | assumption | exact leftT_mem (by assumption)) | (with_reducible refine need ?_ ?_; first | trivial | omega | exact ⟨by assumption, by omega⟩ | (simp only [List.length_append, List.length_cons, List.length_nil, List.length_map, List.length_take, List.length_drop, List.length_replicate, List.length_set]; omega)) | (with_reducible refine fact ?_ ?_; first | trivial | exact ⟨rfl, rfl⟩ | kernel_rfl) | with_reducible refine choT (by assumption) ?_ | with_reducible refine choF (by assumption) ?_ | with_reducible refine choF' (by assumption) ?_ | (with_reducible refine altT ?_ ?_; first | omega | (simp only [List.length_append, List.length_cons, List.length_nil, List.length_map, List.length_take, List.length_drop, List.length_replicate, List.length_set]; omega)) | with_reducible refine altF ?_ | with_reducible refine all fun _ => ?_ | with_reducible refine both ?_ ?_ | (with_reducible refine choT ?_ ?_; omega) | (with_reducible refine choF ?_ ?_; omega) | with_reducible refine cho (fun _ => ?_) (fun _ => ?_))
      all_goals exact ⟨_, _, _, rfl, Sub.app_nil _, rfl, rfl⟩
    | true =>
      rw [if_pos ⟨ht, ht⟩]
      cases bt with
      | false =>
        rw [if_neg hff]
        repeat' (first | with_reducible apply Stp.go | with_reducible refine imp fun _ => ?_ | (with_reducible refine hyp ?_ ?_; first | assumption | exact leftT_mem (by assumption)) | (with_reducible refine need ?_ ?_; first | trivial | omega | exact ⟨by assumption, by omega⟩ | (simp only [List.length_append, List.length_cons, List.length_nil, List.length_map, List.length_take, List.length_drop, List.length_replicate, List.length_set]; omega)) | (with_reducible refine fact ?_ ?_; first | trivial | exact ⟨rfl, rfl⟩ | kernel_rfl) | with_reducible refine choT (by assumption) ?_ | with_reducible refine choF (by assumption) ?_ | with_reducible refine choF' (by assumption) ?_ | (with_reducible refine altT ?_ ?_; first | omega | (simp only [List.length_append, List.length_cons, List.length_nil, List.length_map, List.length_take, List.length_drop, List.length_replicate, List.length_set]; omega)) | with_reducible refine altF ?_ | with_reducible refine all fun _ => ?_ | with_reducible refine both ?_ ?_ | (with_reducible refine choT ?_ ?_; omega) | (with_reducible refine choF ?_ ?_; omega) | with_reducible refine cho (fun _ => ?_) (fun _ => ?_))
        all_goals
          refine ⟨_, _, _, rfl, Sub.app_nil _, ?_, rfl⟩
          first
          | (rw [if_pos (by simp_all)]; rfl)
          | (rw [if_neg (by simp_all)]; rfl)
      | true =>
        rw [if_pos ht]
        cases hB : holdsB b ⟨d, hd.len⟩ cnt y.1 y.2.1 y.2.2 with
        | false =>
          rw [if_neg (fun h => hff h.1)]
          repeat' (first | with_reducible apply Stp.go | with_reducible refine imp fun _ => ?_ | (with_reducible refine hyp ?_ ?_; first | assumption | exact leftT_mem (by assumption)) | (with_reducible refine need ?_ ?_; first | trivial | omega | exact ⟨by assumption, by omega⟩ | (simp only [List.length_append, List.length_cons, List.length_nil, List.length_map, List.length_take, List.length_drop, List.length_replicate, List.length_set]; omega)) | (with_reducible refine fact ?_ ?_; first | trivial | exact ⟨rfl, rfl⟩ | kernel_rfl) | with_reducible refine choT (by assumption) ?_ | with_reducible refine choF (by assumption) ?_ | with_reducible refine choF' (by assumption) ?_ | (with_reducible refine altT ?_ ?_; first | omega | (simp only [List.length_append, List.length_cons, List.length_nil, List.length_map, List.length_take, List.length_drop, List.length_replicate, List.length_set]; omega)) | with_reducible refine altF ?_ | with_reducible refine all fun _ => ?_ | with_reducible refine both ?_ ?_ | (with_reducible refine choT ?_ ?_; omega) | (with_reducible refine choF ?_ ?_; omega) | with_reducible refine cho (fun _ => ?_) (fun _ => ?_))
          all_goals exact ⟨_, _, _, rfl, Sub.app_nil _, rfl, rfl⟩
        | true =>
          obtain ⟨b1, b2⟩ := holdsB_in hB
          rw [lt_flip k (parseV y.2.1).key]
          repeat' (first | with_reducible apply Stp.go | with_reducible refine imp fun _ => ?_ | (with_reducible refine hyp ?_ ?_; first | assumption | exact leftT_mem (by assumption)) | (with_reducible refine need ?_ ?_; first | trivial | omega | exact ⟨by assumption, by omega⟩ | (simp only [List.length_append, List.length_cons, List.length_nil, List.length_map, List.length_take, List.length_drop, List.length_replicate, List.length_set]; omega)) | (with_reducible refine fact ?_ ?_; first | trivial | exact ⟨rfl, rfl⟩ | kernel_rfl) | with_reducible refine choT (by assumption) ?_ | with_reducible refine choF (by assumption) ?_ | with_reducible refine choF' (by assumption) ?_ | (with_reducible refine altT ?_ ?_; first | omega | (simp only [List.length_append, List.length_cons, List.length_nil, List.length_map, List.length_take, List.length_drop, List.length_replicate, List.length_set]; omega)) | with_reducible refine altF ?_ | with_reducible refine all fun _ => ?_ | with_reducible refine both ?_ ?_ | (with_reducible refine choT ?_ ?_; omega) | (with_reducible refine choF ?_ ?_; omega) | with_reducible refine cho (fun _ => ?_) (fun _ => ?_))
          all_goals
            refine ⟨_, _, _, rfl, Sub.app_nil _, ?_, rfl⟩
            first
            | (rw [if_pos (by simp_all [lt])]; rfl)
            | (rw [if_neg (by intro hcc; simp_all [lt])]; rfl)
instance {b lev cnt : Int} {d f g k : List UInt8} [hd : Len32 d] {bt : Bool} {x y : Opn} : PC Go.Proofs.Try.prog 23 [trA b, tabA lev cnt d f g, S k, ptA bt x y] (cnt ≤ 9223372036854775807 ∧ x.2.1.length ≤ 100000000000000 ∧ y.2.1.length ≤ 100000000000000) (.tuple [(seekC b ⟨d, hd.len⟩ cnt f g k bt x y).2.2.av, B (seekC b ⟨d, hd.len⟩ cnt f g k bt x y).2.1, I .i64 ((seekC b ⟨d, hd.len⟩ cnt f g k bt x y).1 : Nat)]) := ⟨fun hl => PC.of (seekCheck_ok b lev cnt d f g k bt x y hl.1 hl.2.1 hl.2.2)⟩
end Go.Ab

/- A table's points and spans: what is told of a list. No program in sight. -/
set_option linter.unusedVariables false
set_option linter.unusedSimpArgs false
namespace Go.Ab
theorem whole_enB {e : En} (h : right e = true) : wholeB (enB e) = true ∧ parseV (enB e) = e := by
  have := parse_put e h []
  rw [List.append_nil, ← enB_right h] at this
  simp [wholeB, parseV, parseX, parseN, this]
theorem getD_mem {α : Type} [Inhabited α] {l : List α} {i : Nat} (h : i < l.length) : l.getD i default ∈ l := by
  rw [List.getD_eq_getElem?_getD, List.getElem?_eq_getElem h]; exact List.getElem_mem _
theorem getD_mapd {α β : Type} [Inhabited α] [Inhabited β] (f : α → β) {l : List α} {i : Nat} (h : i < l.length) : (l.map f).getD i default = f (l.getD i default) := by
  rw [List.getD_eq_getElem?_getD, List.getD_eq_getElem?_getD, List.getElem?_map, List.getElem?_eq_getElem h]; rfl
theorem holds_real (b : Int) {l : List En} (hr : ∀ i, i < l.length → right (l.getD i default) = true) {i : Nat} (h : i < l.length) : holdsB b (rootF b (l.map enB)) (l.length : Nat) (i : Nat) ((l.map enB).getD i default) (pathD b (l.map enB) i) = true ∧ parseV ((l.map enB).getD i default) = l.getD i default := by
  rw [getD_mapd enB h]
  obtain ⟨h1, h2⟩ := whole_enB (hr i h)
  refine ⟨?_, h2⟩
  obtain ⟨p1, p2⟩ := path_root b l.length (l.map enB) i (by simp) h
  rw [getD_mapd enB h] at p2
  rw [holdsB, h1, Bool.true_and, checkZ_nat _ _ _ _ h, checkB, decide_eq_true p1, Bool.true_and, decide_eq_true p2]
/-- An entry's key is one of those that are asked for. -/
def inS (lo hi : List UInt8) (e : En) : Bool := !lt e.key lo && belowB e.key hi
end Go.Ab

/- The document's points. -/
set_option linter.unusedVariables false
set_option linter.unusedSimpArgs false
namespace Go.Ab
def ref12_Covers.mark : Mark := ⟨fun t => false, fun t => false, fun t => Nat.beq t 2, fun t => Nat.beq t 7 || Nat.beq t 12, fun t => false⟩
def ref12_Covers.ann : Ann := ⟨fun n => [], fun n => none, fun n => none⟩
def ref12_Overlaps.mark : Mark := ⟨fun t => false, fun t => false, fun t => Nat.beq t 3, fun t => Nat.beq t 16 || Nat.beq t 25, fun t => false⟩
def ref12_Overlaps.ann : Ann := ⟨fun n => [], fun n => none, fun n => none⟩
def ref12_opening.mark : Mark := ⟨fun t => Nat.beq t 13, fun t => false, fun t => false, fun t => Nat.beq t 20, fun t => false⟩
def ref12_opening.ann : Ann := ⟨fun n => [], fun n => none, fun n => none⟩
def ref12_Prove.mark : Mark := ⟨fun t => Nat.beq t 13 || Nat.beq t 36 || Nat.beq t 40 || Nat.beq t 47 || Nat.beq t 53 || Nat.beq t 57, fun t => false, fun t => false, fun t => Nat.beq t 21 || Nat.beq t 31, fun t => false⟩
def ref12_Prove.ann : Ann := ⟨fun n => [], fun n => none, fun n => none⟩
def ref12_Whole.mark : Mark := ⟨fun t => Nat.beq t 9, fun t => false, fun t => false, fun t => false, fun t => false⟩
def ref12_Whole.ann : Ann := ⟨fun n => [], fun n => none, fun n => none⟩
def ref12_holds.mark : Mark := ⟨fun t => Nat.beq t 23 || Nat.beq t 28, fun t => false, fun t => Nat.beq t 4 || Nat.beq t 5, fun t => Nat.beq t 13 || Nat.beq t 15 || Nat.beq t 17 || Nat.beq t 19 || Nat.beq t 22 || Nat.beq t 26, fun t => false⟩
def ref12_holds.ann : Ann := ⟨fun n => [], fun n => none, fun n => none⟩
def ref12_Check.mark : Mark := ⟨fun t => Nat.beq t 18 || Nat.beq t 24 || Nat.beq t 68, fun t => false, fun t => Nat.beq t 5 || Nat.beq t 7, fun t => Nat.beq t 16 || Nat.beq t 21 || Nat.beq t 23 || Nat.beq t 35 || Nat.beq t 44 || Nat.beq t 50 || Nat.beq t 57 || Nat.beq t 65 || Nat.beq t 67 || Nat.beq t 76 || Nat.beq t 79, fun t => false⟩
def ref12_Check.ann : Ann := ⟨fun n => [], fun n => none, fun n => none⟩
end Go.Ab

/- What a table has of some keys, checked. -/
set_option linter.unusedVariables false
set_option linter.unusedSimpArgs false
namespace Go.Ab
/-- What comes ahead of the leaves. -/
def spanIn (f g lo hi : List UInt8) (cnt p : Int) (n : Nat) : Bool := overB f g lo hi && decide (n ≠ 0 ∧ (n : Int) ≤ cnt ∧ 0 ≤ p ∧ p ≤ cnt)
/-- What is asked of the entries. -/
def spanL (b : Int) (root : D32) (cnt : Int) (lo hi : List UInt8) (p : Int) (L : List (List UInt8)) (path : List D32) : Bool :=
  !(!lt ((L.map parseV).getD 0 default).key lo && decide (0 < p)) && (!(belowB ((L.map parseV).getD (L.length - 1) default).key hi && decide (p + L.length < cnt)) && (sorted (L.map parseV) && checkR b root cnt p L path))
def spanC (b : Int) (root : D32) (cnt : Int) (f g lo hi : List UInt8) (p : Int) (L : List (List UInt8)) (path : List D32) : Nat × List En :=
  if spanIn f g lo hi cnt p L.length = true then
    if L.all wholeB = true then
      if spanL b root cnt lo hi p L path = true then (0, (L.map parseV).filter (inS lo hi)) else (8, [])
    else (8, [])
  else (8, [])
def seek_CheckSpan_1.mark : Mark := ⟨fun t => Nat.beq t 13, fun t => false, fun t => Nat.beq t 3, fun t => Nat.beq t 6 || Nat.beq t 11, fun t => false⟩
def seek_CheckSpan_1.ann : Ann := ⟨fun n => [], fun n => none, fun n => none⟩
/-- 'marlstone/seek.CheckSpan$1' -/
def seek_CheckSpan_1.sh (a0 a1 a2 : AV) (σ : Store) (Q : AEnd → Store → Prop) : Prop :=
  Do (aFreeze ((a0 : AV)).cells) fun t3 =>
  Do (aFieldAddr 0 1 t3) fun t5 =>
  Do (loadF false 1 t5) fun t6 =>
  Do (loadA false 1 a1 σ) fun t7 =>
  Do (aBin Go.Proofs.Try.prog .lss 9 t6 t7) fun t8 =>
  Do (aGuard t8 false (aFieldAddr 0 1 t3)) fun t10 =>
  Do (aGuard t8 false (loadF false 1 t10)) fun t11 =>
  Do (aGuard t8 false (loadA false 1 a2 σ)) fun t12 =>
  Do (aGuard t8 false (aPureC Go.Proofs.Try.prog 43 [t11, t12])) fun t13 =>
  Do (aGuard t8 false (aUn Go.Proofs.Try.prog .not t13)) fun t14 =>
  Do (aPick t8 (.val (.bool true)) t14) fun t15 =>
  Q (.ret t15) σ
theorem seek_CheckSpan_1.eq (a0 a1 a2 : AV) (σ : Store) (Q : AEnd → Store → Prop) : vc (semOf Go.Proofs.Try.prog seek_CheckSpan_1.mark) Go.Proofs.Try.f56.ntmps seek_CheckSpan_1.ann (bodyOf Go.Proofs.Try.f56) (endK [.tmp 4] Q) (argFr [a0, a1, a2]) σ = seek_CheckSpan_1.sh a0 a1 a2 σ Q := by kernel_rfl
theorem seek_CheckSpan_1.go {a0 a1 a2 : AV} {σ : Store} {Q : AEnd → Store → Prop} (h : seek_CheckSpan_1.sh a0 a1 a2 σ Q) : ACalls Go.Proofs.Try.prog 56 [a0, a1, a2] σ Q :=
  acalls_of_eq [.tmp 4] Go.Proofs.Try.func56 (by kernel_rfl) (by kernel_rfl) (by kernel_rfl) (by kernel_rfl) (seek_CheckSpan_1.eq a0 a1 a2 σ Q) h
def seek_CheckSpan.mark : Mark := ⟨fun t => Nat.beq t 26 || Nat.beq t 59 || Nat.beq t 87 || Nat.beq t 118, fun t => false, fun t => Nat.beq t 5 || Nat.beq t 6 || Nat.beq t 9, fun t => Nat.beq t 21 || Nat.beq t 23 || Nat.beq t 35 || Nat.beq t 40 || Nat.beq t 45 || Nat.beq t 47 || Nat.beq t 51 || Nat.beq t 56 || Nat.beq t 77 || Nat.beq t 90 || Nat.beq t 94 || Nat.beq t 107 || Nat.beq t 109 || Nat.beq t 111 || Nat.beq t 113 || Nat.beq t 115 || Nat.beq t 117, fun t => Nat.beq t 103⟩
def seek_CheckSpan.ann : Ann := ⟨fun n => bif Nat.beq n 6 then [5, 6, 7, 8, 9, 12, 13, 51, 52, 53] else [], fun n => none, fun n => none⟩
/-- 'marlstone/seek.CheckSpan' -/
def seek_CheckSpan.sh (a0 a1 a2 a3 a4 : AV) (σ : Store) (Q : AEnd → Store → Prop) : Prop :=
  Do (aFreeze ((a0 : AV)).cells) fun t5 =>
  Do (aFreeze ((a1 : AV)).cells) fun t6 =>
  aNewVar 9 (a2 : AV).cells σ fun t7 σ =>
  aNewVar 9 (a3 : AV).cells σ fun t8 σ_1 =>
  Do (aFreeze ((a4 : AV)).cells) fun t9 =>
  Do (aFieldAddr 1 1 t9) fun t20 =>
  Do (loadF false 1 t20) fun t21 =>
  Do (aBuiltin Go.Proofs.Try.prog .len #[37] [t21]) fun t22 =>
  Do (loadF true 36 t6) fun t23 =>
  Do (loadA false 1 t7 σ_1) fun t24 =>
  Do (loadA false 1 t8 σ_1) fun t25 =>
  Do (aPureC Go.Proofs.Try.prog 20 [t23, t24, t25]) fun t26 =>
  Do (aUn Go.Proofs.Try.prog .not t26) fun t27 =>
  Do (aGuard t27 false (aIs t22)) fun t29 =>
  Do (aGuard t27 false (aBin Go.Proofs.Try.prog .eql 3 t29 (.val (.int .i64 0)))) fun t30 =>
  Do (aPick t27 (.val (.bool true)) t30) fun t31 =>
  Do (aGuard t31 false (aIs t22)) fun t33 =>
  Do (aGuard t31 false (aFieldAddr 1 1 t6)) fun t34 =>
  Do (aGuard t31 false (loadF false 1 t34)) fun t35 =>
  Do (aGuard t31 false (aBin Go.Proofs.Try.prog .gtr 3 t33 t35)) fun t36 =>
  Do (aPick t31 (.val (.bool true)) t36) fun t37 =>
  Do (aGuard t37 false (aFieldAddr 0 1 t9)) fun t39 =>
  Do (aGuard t37 false (loadF false 1 t39)) fun t40 =>
  Do (aGuard t37 false (aBin Go.Proofs.Try.prog .lss 3 t40 (.val (.int .i64 0)))) fun t41 =>
  Do (aPick t37 (.val (.bool true)) t41) fun t42 =>
  Do (aGuard t42 false (aFieldAddr 0 1 t9)) fun t44 =>
  Do (aGuard t42 false (loadF false 1 t44)) fun t45 =>
  Do (aGuard t42 false (aFieldAddr 1 1 t6)) fun t46 =>
  Do (aGuard t42 false (loadF false 1 t46)) fun t47 =>
  Do (aGuard t42 false (aBin Go.Proofs.Try.prog .gtr 3 t45 t47)) fun t48 =>
  Do (aPick t42 (.val (.bool true)) t48) fun t49 =>
  aCond t49
    (Q (.ret (.tuple [(.val (.slice none 0 0)), (.val (.int .i64 8))])) σ_1)
    (Do (aFieldAddr 1 1 t9) fun t50 =>
  Do (loadF false 1 t50) fun t51 =>
  Do (aBuiltin Go.Proofs.Try.prog .len #[37] [t51]) fun t52 =>
  aLoop (fun go vs σ_2 =>
    At vs 0 fun s5 => At vs 1 fun s6 => At vs 2 fun s7 => At vs 3 fun s8 => At vs 4 fun s9 => At vs 5 fun s12 => At vs 6 fun s13 => At vs 7 fun s51 => At vs 8 fun s52 => At vs 9 fun s53 => Do (aBin Go.Proofs.Try.prog .lss 3 s53 s52) fun t54 =>
    aCond t54
      (Do (aIndexAddr .slice 1 s51 s53) fun t55 =>
    Do (loadF false 1 t55) fun t56 =>
    Do (aPureC Go.Proofs.Try.prog 52 [t56]) fun t59 =>
    Do (aExt t59 0) fun t60 =>
    Do (aExt t59 1) fun t61 =>
    aNewVar 54 [.val (.string ⟨#[]⟩), .val (.string ⟨#[]⟩), .val (.bool false), .val (.int .i64 0)] σ_2 fun t16 σ_3 =>
    storeA 4 t16 t60 σ_3 fun u σ_4 =>
    Do (aUn Go.Proofs.Try.prog .not t61) fun t63 =>
    aCond t63
      (Q (.ret (.tuple [(.val (.slice none 0 0)), (.val (.int .i64 8))])) σ_4)
      (Do (loadA true 4 t16 σ_4) fun t65 =>
    Do (aSlLit (mkE [.val (.string ⟨#[]⟩), .val (.string ⟨#[]⟩), .val (.bool false), .val (.int .i64 0)]) 4 1 [(0, t65)]) fun t66 =>
    aAppend 54 4 48 s13 t66 σ_4 (subK fun t67 σ_5 =>
    Do (aBin Go.Proofs.Try.prog .add 3 s53 (.val (.int .i64 1))) fun t68 =>
    go [s5, s6, s7, s8, s9, s12, t67, s51, s52, t68] σ_5)))
      (Do (aIndexAddr .slice 4 s13 (.val (.int .i64 0))) fun t70 =>
  Do (aFieldAddr 0 1 t70) fun t71 =>
  Do (loadA false 1 t71 σ_2) fun t72 =>
  Do (loadA false 1 s7 σ_2) fun t73 =>
  Do (aBin Go.Proofs.Try.prog .geq 9 t72 t73) fun t74 =>
  Do (aGuard t74 true (aFieldAddr 0 1 s9)) fun t76 =>
  Do (aGuard t74 true (loadF false 1 t76)) fun t77 =>
  Do (aGuard t74 true (aBin Go.Proofs.Try.prog .gtr 3 t77 (.val (.int .i64 0)))) fun t78 =>
  Do (aPick t74 t78 (.val (.bool false))) fun t79 =>
  Do (aBin Go.Proofs.Try.prog .sub 3 s12 (.val (.int .i64 1))) fun t82 =>
  Do (aIndexAddr .slice 4 s13 t82) fun t83 =>
  Do (aFieldAddr 0 1 t83) fun t84 =>
  Do (loadA false 1 t84 σ_2) fun t85 =>
  Do (loadA false 1 s8 σ_2) fun t86 =>
  Do (aPureC Go.Proofs.Try.prog 43 [t85, t86]) fun t87 =>
  Do (aGuard t87 true (aFieldAddr 0 1 s9)) fun t89 =>
  Do (aGuard t87 true (loadF false 1 t89)) fun t90 =>
  Do (aGuard t87 true (aIs s12)) fun t91 =>
  Do (aGuard t87 true (aBin Go.Proofs.Try.prog .add 3 t90 t91)) fun t92 =>
  Do (aGuard t87 true (aFieldAddr 1 1 s6)) fun t93 =>
  Do (aGuard t87 true (loadF false 1 t93)) fun t94 =>
  Do (aGuard t87 true (aBin Go.Proofs.Try.prog .lss 3 t92 t94)) fun t95 =>
  Do (aPick t87 t95 (.val (.bool false))) fun t96 =>
  Do (aGuard t79 false (aIs t96)) fun t99 =>
  Do (aPick t79 (.val (.bool true)) t99) fun t100 =>
  Do (aGuard t100 false (aIs s13)) fun t102 =>
  Do (aGuard t100 false (lookC Go.Proofs.Try.prog 53 [t102] σ_2)) fun t103 =>
  Do (aGuard t100 false (aUn Go.Proofs.Try.prog .not t103)) fun t104 =>
  Do (aPick t100 (.val (.bool true)) t104) fun t105 =>
  Do (aGuard t105 false (loadF true 1 s5)) fun t107 =>
  Do (aGuard t105 false (aFieldAddr 2 32 s6)) fun t108 =>
  Do (aGuard t105 false (loadF true 32 t108)) fun t109 =>
  Do (aGuard t105 false (aFieldAddr 1 1 s6)) fun t110 =>
  Do (aGuard t105 false (loadF false 1 t110)) fun t111 =>
  Do (aGuard t105 false (aFieldAddr 0 1 s9)) fun t112 =>
  Do (aGuard t105 false (loadF false 1 t112)) fun t113 =>
  Do (aGuard t105 false (aFieldAddr 1 1 s9)) fun t114 =>
  Do (aGuard t105 false (loadF false 1 t114)) fun t115 =>
  Do (aGuard t105 false (aFieldAddr 2 1 s9)) fun t116 =>
  Do (aGuard t105 false (loadF false 1 t116)) fun t117 =>
  Do (aGuard t105 false (aPureC Go.Proofs.Try.prog 54 [t107, t109, t111, t113, t115, t117])) fun t118 =>
  Do (aGuard t105 false (aUn Go.Proofs.Try.prog .not t118)) fun t119 =>
  Do (aPick t105 (.val (.bool true)) t119) fun t120 =>
  aCond t120
    (Q (.ret (.tuple [(.val (.slice none 0 0)), (.val (.int .i64 8))])) σ_2)
    (aCall Go.Proofs.Try.prog 55 [s13, (.fn (.func 56) [] [s7, s8])] σ_2 (fun t123 σ_6 =>
  Q (.ret (.tuple [t123, (.val (.int .i64 0))])) σ_6) (fun e σ_7 => Q (.pan e) σ_7))))
    [t5, t6, t7, t8, t9, t22, (.val (.slice none 0 0)), t51, t52, (.val (.int .i64 0))] σ_1)
theorem seek_CheckSpan.eq (a0 a1 a2 a3 a4 : AV) (σ : Store) (Q : AEnd → Store → Prop) : vc (semOf Go.Proofs.Try.prog seek_CheckSpan.mark) Go.Proofs.Try.f26.ntmps seek_CheckSpan.ann (bodyOf Go.Proofs.Try.f26) (endK [.tmp 10, .tmp 11] Q) (argFr [a0, a1, a2, a3, a4]) σ = seek_CheckSpan.sh a0 a1 a2 a3 a4 σ Q := by kernel_rfl
theorem seek_CheckSpan.go {a0 a1 a2 a3 a4 : AV} {σ : Store} {Q : AEnd → Store → Prop} (h : seek_CheckSpan.sh a0 a1 a2 a3 a4 σ Q) : ACalls Go.Proofs.Try.prog 26 [a0, a1, a2, a3, a4] σ Q :=
  acalls_of_eq [.tmp 10, .tmp 11] Go.Proofs.Try.func26 (by kernel_rfl) (by kernel_rfl) (by kernel_rfl) (by kernel_rfl) (seek_CheckSpan.eq a0 a1 a2 a3 a4 σ Q) h
theorem cspan1_ok (e : En) (lo hi : List UInt8) : aPure Go.Proofs.Try.prog 56 [e.av, .rptr [S lo], .rptr [S hi]] (B (!inS lo hi e)) := by
  refine seek_CheckSpan_1.go ?_
  unfold seek_CheckSpan_1.sh
  cases h : lt e.key lo with
  | true =>
    have e : inS lo hi e = false := by unfold inS; rw [h]; rfl
    rw [e]
    repeat' (first | with_reducible apply Stp.go | with_reducible refine imp fun _ => ?_ | (with_reducible refine hyp ?_ ?_; first | assumption | exact leftT_mem (by assumption)) | (with_reducible refine need ?_ ?_; first | trivial | omega | exact ⟨by assumption, by omega⟩ | (simp only [List.length_append, List.length_cons, List.length_nil, List.length_map, List.length_take, List.length_drop, List.length_replicate, List.length_set]; omega)) | (with_reducible refine fact ?_ ?_; first | trivial | exact ⟨rfl, rfl⟩ | kernel_rfl) | with_reducible refine choT (by assumption) ?_ | with_reducible refine choF (by assumption) ?_ | with_reducible refine choF' (by assumption) ?_ | (with_reducible refine altT ?_ ?_; first | omega | (simp only [List.length_append, List.length_cons, List.length_nil, List.length_map, List.length_take, List.length_drop, List.length_replicate, List.length_set]; omega)) | with_reducible refine altF ?_ | with_reducible refine all fun _ => ?_ | with_reducible refine both ?_ ?_ | (with_reducible refine choT ?_ ?_; omega) | (with_reducible refine choF ?_ ?_; omega) | with_reducible refine cho (fun _ => ?_) (fun _ => ?_))
    all_goals exact ⟨rfl, rfl⟩
  | false =>
    have e : inS lo hi e = belowB e.key hi := by unfold inS; rw [h]; rfl
    rw [e]
    have hff : ¬ (false : Bool) = true := by decide
    repeat' (first | with_reducible apply Stp.go | with_reducible refine imp fun _ => ?_ | (with_reducible refine hyp ?_ ?_; first | assumption | exact leftT_mem (by assumption)) | (with_reducible refine need ?_ ?_; first | trivial | omega | exact ⟨by assumption, by omega⟩ | (simp only [List.length_append, List.length_cons, List.length_nil, List.length_map, List.length_take, List.length_drop, List.length_replicate, List.length_set]; omega)) | (with_reducible refine fact ?_ ?_; first | trivial | exact ⟨rfl, rfl⟩ | kernel_rfl) | with_reducible refine choT (by assumption) ?_ | with_reducible refine choF (by assumption) ?_ | with_reducible refine choF' (by assumption) ?_ | (with_reducible refine altT ?_ ?_; first | omega | (simp only [List.length_append, List.length_cons, List.length_nil, List.length_map, List.length_take, List.length_drop, List.length_replicate, List.length_set]; omega)) | with_reducible refine altF ?_ | with_reducible refine all fun _ => ?_ | with_reducible refine both ?_ ?_ | (with_reducible refine choT ?_ ?_; omega) | (with_reducible refine choF ?_ ?_; omega) | with_reducible refine cho (fun _ => ?_) (fun _ => ?_))
    all_goals exact ⟨rfl, rfl⟩
instance {lo hi : List UInt8} : Pred Go.Proofs.Try.prog (.fn (.func 56) [] [.rptr [S lo], .rptr [S hi]]) (fun e => !inS lo hi e) := ⟨fun e => ⟨_, [], [.rptr [S lo], .rptr [S hi]], _, rfl, SubVs.refl _, cspan1_ok e lo hi⟩⟩
theorem CheckSpan_ok (b lev cnt : Int) (d f g lo hi : List UInt8) [hd : Len32 d] (p : Int) (L : List (List UInt8)) (path : List D32) (hc : cnt ≤ 9223372036854775807) (hl : L.length ≤ 1000000) (hb : ∀ b ∈ L, b.length ≤ 100000000000000) :
    aPure Go.Proofs.Try.prog 26 [trA b, tabA lev cnt d f g, S lo, S hi, spA p L path] (.tuple [.lst 4 ((spanC b ⟨d, hd.len⟩ cnt f g lo hi p L path).2.map En.av) .ro, I .i64 ((spanC b ⟨d, hd.len⟩ cnt f g lo hi p L path).1 : Nat)]) := by
  refine ACalls.fin (seek_CheckSpan.go ?_)
  unfold seek_CheckSpan.sh
  cases hin : spanIn f g lo hi cnt p L.length with
  | false =>
    have e : spanC b ⟨d, hd.len⟩ cnt f g lo hi p L path = (8, []) := by unfold spanC; rw [if_neg (by rw [hin]; decide)]
    rw [e]
    unfold spanIn at hin
    by_cases hc2 : L.length ≠ 0 ∧ (L.length : Int) ≤ cnt ∧ 0 ≤ p ∧ p ≤ cnt
    · rw [decide_eq_true hc2, Bool.and_true] at hin
      have hff : ¬ overB f g lo hi = true := by rw [hin]; decide
      repeat' (first | with_reducible apply Stp.go | with_reducible refine imp fun _ => ?_ | (with_reducible refine hyp ?_ ?_; first | assumption | exact leftT_mem (by assumption)) | (with_reducible refine need ?_ ?_; first | trivial | omega | exact ⟨by assumption, by omega⟩ | (simp only [List.length_append, List.length_cons, List.length_nil, List.length_map, List.length_take, List.length_drop, List.length_replicate, List.length_set]; omega)) | (with_reducible refine fact ?_ ?_; first | trivial | exact ⟨rfl, rfl⟩ | kernel_rfl) | with_reducible refine choT (by assumption) ?_ | with_reducible refine choF (by assumption) ?_ | with_reducible refine choF' (by assumption) ?_ | (with_reducible refine altT ?_ ?_; first | omega | (simp only [List.length_append, List.length_cons, List.length_nil, List.length_map, List.length_take, List.length_drop, List.length_replicate, List.length_set]; omega)) | with_reducible refine altF ?_ | with_reducible refine all fun _ => ?_ | with_reducible refine both ?_ ?_ | (with_reducible refine choT ?_ ?_; omega) | (with_reducible refine choF ?_ ?_; omega) | with_reducible refine cho (fun _ => ?_) (fun _ => ?_))
      all_goals exact ⟨_, _, _, rfl, Sub.tuple (retNil En.av (sz := 4) (by decide) (Sub.app_nil _)), rfl, rfl⟩
    · repeat' (first | with_reducible apply Stp.go | with_reducible refine imp fun _ => ?_ | (with_reducible refine hyp ?_ ?_; first | assumption | exact leftT_mem (by assumption)) | (with_reducible refine need ?_ ?_; first | trivial | omega | exact ⟨by assumption, by omega⟩ | (simp only [List.length_append, List.length_cons, List.length_nil, List.length_map, List.length_take, List.length_drop, List.length_replicate, List.length_set]; omega)) | (with_reducible refine fact ?_ ?_; first | trivial | exact ⟨rfl, rfl⟩ | kernel_rfl) | with_reducible refine choT (by assumption) ?_ | with_reducible refine choF (by assumption) ?_ | with_reducible refine choF' (by assumption) ?_ | (with_reducible refine altT ?_ ?_; first | omega | (simp only [List.length_append, List.length_cons, List.length_nil, List.length_map, List.length_take, List.length_drop, List.length_replicate, List.length_set]; omega)) | with_reducible refine altF ?_ | with_reducible refine all fun _ => ?_ | with_reducible refine both ?_ ?_ | (with_reducible refine choT ?_ ?_; omega) | (with_reducible refine choF ?_ ?_; omega) | with_reducible refine cho (fun _ => ?_) (fun _ => ?_))
      all_goals first
        | exact ⟨_, _, _, rfl, Sub.tuple (retNil En.av (sz := 4) (by decide) (Sub.app_nil _)), rfl, rfl⟩
        | (exfalso; omega)
  | true =>
    have hin' := hin
    unfold spanIn at hin'
    rw [Bool.and_eq_true, decide_eq_true_eq] at hin'
    obtain ⟨h1, h2, h3, h4, h5⟩ := hin'
    have h6 : ¬ cnt < (L.length : Int) := by omega
    have h7 : ¬ p < 0 := by omega
    have h8 : ¬ cnt < p := by omega
    repeat' (first | with_reducible apply Stp.go | with_reducible refine imp fun _ => ?_ | (with_reducible refine hyp ?_ ?_; first | assumption | exact leftT_mem (by assumption)) | (with_reducible refine need ?_ ?_; first | trivial | omega | exact ⟨by assumption, by omega⟩ | (simp only [List.length_append, List.length_cons, List.length_nil, List.length_map, List.length_take, List.length_drop, List.length_replicate, List.length_set]; omega)) | (with_reducible refine fact ?_ ?_; first | trivial | exact ⟨rfl, rfl⟩ | kernel_rfl) | with_reducible refine choT (by assumption) ?_ | with_reducible refine choF (by assumption) ?_ | with_reducible refine choF' (by assumption) ?_ | (with_reducible refine altT ?_ ?_; first | omega | (simp only [List.length_append, List.length_cons, List.length_nil, List.length_map, List.length_take, List.length_drop, List.length_replicate, List.length_set]; omega)) | with_reducible refine altF ?_ | with_reducible refine all fun _ => ?_ | with_reducible refine both ?_ ?_ | (with_reducible refine choT ?_ ?_; omega) | (with_reducible refine choF ?_ ?_; omega) | with_reducible refine cho (fun _ => ?_) (fun _ => ?_))
    rename_i r1 r2
    refine loopI (β := Nat × Value) (fun x => x.1 ≤ L.length ∧ (L.take x.1).all wholeB = true) (fun x => [.rptr [I .i64 b], .rptr (tabCs lev cnt d f g), ptrAt r1 0, ptrAt r2 0, .rptr [I .i64 p, .lst 1 (L.map bl) .ro, .lst 32 (path.map dgF) .ro], I .i64 (L.length : Nat), .own x.2 ((L.take x.1).map parseV).length, .lst 1 (L.map bl) .ro, I .i64 (L.length : Nat), I .i64 (x.1 : Nat)])
      (fun x => [.row x.2 54 4 (((L.take x.1).map parseV).map En.av) 0, .var r2 9 [S hi], .var r1 9 [S lo]]) (fun x => L.length - x.1) (0, .slice none 0 0) ⟨Nat.zero_le _, rfl⟩ (Sub.nil_own 54 (sz := 4) (by decide) [_, _] [_, _, _, _, _, _] [_, _, _]) ?_
    rintro ⟨i, v⟩ ⟨q1, q2⟩
    dsimp only at q1 q2 ⊢
    by_cases hlt : i < L.length
    · have e1 : (L.take (i + 1)).map parseV = (L.take i).map parseV ++ [parseV (L.getD i default)] := by rw [take_succ_d hlt, List.map_append]; rfl
      have e2 : (L.take (i + 1)).all wholeB = ((L.take i).all wholeB && wholeB (L.getD i default)) := by rw [take_succ_d hlt, List.all_append]; simp
      have hb0 : (L.getD i default).length ≤ 100000000000000 := hb _ (getD_mem hlt)
      have hk : ((L.take i).map parseV).length ≤ L.length := by simp; omega
      cases hw : wholeB (L.getD i default) with
      | true =>
        repeat' (first | with_reducible apply Stp.go | with_reducible refine imp fun _ => ?_ | (with_reducible refine hyp ?_ ?_; first | assumption | exact leftT_mem (by assumption)) | (with_reducible refine need ?_ ?_; first | trivial | omega | exact ⟨by assumption, by omega⟩ | (simp only [List.length_append, List.length_cons, List.length_nil, List.length_map, List.length_take, List.length_drop, List.length_replicate, List.length_set]; omega)) | (with_reducible refine fact ?_ ?_; first | trivial | exact ⟨rfl, rfl⟩ | kernel_rfl) | with_reducible refine choT (by assumption) ?_ | with_reducible refine choF (by assumption) ?_ | with_reducible refine choF' (by assumption) ?_ | (with_reducible refine altT ?_ ?_; first | omega | (simp only [List.length_append, List.length_cons, List.length_nil, List.length_map, List.length_take, List.length_drop, List.length_replicate, List.length_set]; omega)) | with_reducible refine altF ?_ | with_reducible refine all fun _ => ?_ | with_reducible refine both ?_ ?_ | (with_reducible refine choT ?_ ?_; omega) | (with_reducible refine choF ?_ ?_; omega) | with_reducible refine cho (fun _ => ?_) (fun _ => ?_))
        rename_i w
        refine again (i + 1, w) (by dsimp only; omega) ⟨by dsimp only; omega, by dsimp only; rw [e2, q2, hw]; rfl⟩ ?_
        dsimp only
        rw [e1]
        exact Sub.drop_ (List.sublist_cons_self _ _) _
      | false =>
        have e : spanC b ⟨d, hd.len⟩ cnt f g lo hi p L path = (8, []) := by
          unfold spanC
          rw [if_pos hin, if_neg]
          intro h
          have := List.all_eq_true.1 h _ (getD_mem hlt)
          rw [hw] at this; cases this
        rw [e]
        repeat' (first | with_reducible apply Stp.go | with_reducible refine imp fun _ => ?_ | (with_reducible refine hyp ?_ ?_; first | assumption | exact leftT_mem (by assumption)) | (with_reducible refine need ?_ ?_; first | trivial | omega | exact ⟨by assumption, by omega⟩ | (simp only [List.length_append, List.length_cons, List.length_nil, List.length_map, List.length_take, List.length_drop, List.length_replicate, List.length_set]; omega)) | (with_reducible refine fact ?_ ?_; first | trivial | exact ⟨rfl, rfl⟩ | kernel_rfl) | with_reducible refine choT (by assumption) ?_ | with_reducible refine choF (by assumption) ?_ | with_reducible refine choF' (by assumption) ?_ | (with_reducible refine altT ?_ ?_; first | omega | (simp only [List.length_append, List.length_cons, List.length_nil, List.length_map, List.length_take, List.length_drop, List.length_replicate, List.length_set]; omega)) | with_reducible refine altF ?_ | with_reducible refine all fun _ => ?_ | with_reducible refine both ?_ ?_ | (with_reducible refine choT ?_ ?_; omega) | (with_reducible refine choF ?_ ?_; omega) | with_reducible refine cho (fun _ => ?_) (fun _ => ?_))
        exact ⟨_, _, _, rfl, Sub.tuple (retNil En.av (sz := 4) (by decide) (Sub.app_nil _)), rfl, rfl⟩
    · have e1 : i = L.length := by omega
      subst e1
      rw [List.take_length] at q2
      rw [List.take_length]
      have e : spanC b ⟨d, hd.len⟩ cnt f g lo hi p L path = if spanL b ⟨d, hd.len⟩ cnt lo hi p L path = true then (0, (L.map parseV).filter (inS lo hi)) else (8, []) := by unfold spanC; rw [if_pos hin, if_pos q2]
      rw [e]
      have hml : (L.map parseV).length = L.length := by simp
      generalize hM : L.map parseV = M at *
      have g1 : L.length - 1 < M.length := by omega
      have fin : ∀ (σ : Store), spanL b ⟨d, hd.len⟩ cnt lo hi p L path = false → ∃ u u1 τ, AEnd.ret (AV.tuple [.val (.slice none 0 0), .val (.int .i64 8)]) = .ret u ∧ Sub σ [u] τ [u1] ∧ AEnd.ret u1 = .ret (.tuple [.lst 4 ((if spanL b ⟨d, hd.len⟩ cnt lo hi p L path = true then (0, M.filter (inS lo hi)) else ((8, []) : Nat × List En)).2.map En.av) .ro, I .i64 ((if spanL b ⟨d, hd.len⟩ cnt lo hi p L path = true then (0, M.filter (inS lo hi)) else ((8, []) : Nat × List En)).1 : Nat)]) ∧ τ = [] := by
        intro σ h
        rw [if_neg (by rw [h]; decide)]
        exact ⟨_, _, _, rfl, Sub.tuple (retNil En.av (sz := 4) (by decide) (Sub.app_nil _)), rfl, rfl⟩
      have es : spanL b ⟨d, hd.len⟩ cnt lo hi p L path = (!(!lt (M.getD 0 default).key lo && decide (0 < p)) && (!(belowB (M.getD (L.length - 1) default).key hi && decide (p + L.length < cnt)) && (sorted M && checkR b ⟨d, hd.len⟩ cnt p L path))) := by unfold spanL; rw [hM]
      have hq : cnt ≤ 9223372036854775807 ∧ L.length ≤ 1000000000 ∧ ∀ (b : List UInt8), b ∈ L → b.length ≤ 100000000000000 := ⟨hc, by omega, hb⟩
      by_cases hov : p + L.length ≤ 9223372036854775807
      · repeat' (first | with_reducible apply Stp.go | with_reducible refine imp fun _ => ?_ | (with_reducible refine hyp ?_ ?_; first | assumption | exact leftT_mem (by assumption)) | (with_reducible refine need ?_ ?_; first | trivial | omega | exact ⟨by assumption, by omega⟩ | (simp only [List.length_append, List.length_cons, List.length_nil, List.length_map, List.length_take, List.length_drop, List.length_replicate, List.length_set]; omega)) | (with_reducible refine fact ?_ ?_; first | trivial | exact ⟨rfl, rfl⟩ | kernel_rfl) | with_reducible refine choT (by assumption) ?_ | with_reducible refine choF (by assumption) ?_ | with_reducible refine choF' (by assumption) ?_ | (with_reducible refine altT ?_ ?_; first | omega | (simp only [List.length_append, List.length_cons, List.length_nil, List.length_map, List.length_take, List.length_drop, List.length_replicate, List.length_set]; omega)) | with_reducible refine altF ?_ | with_reducible refine all fun _ => ?_ | with_reducible refine both ?_ ?_ | (with_reducible refine choT ?_ ?_; omega) | (with_reducible refine choF ?_ ?_; omega) | with_reducible refine cho (fun _ => ?_) (fun _ => ?_))
        all_goals first
          | exact fin _ (by rw [es]; simp_all [lt])
          | skip
        all_goals
          refine callBy (args' := [.own v M.length, .fn (.func 56) [] [.rptr [S lo], .rptr [S hi]]]) (σ' := [.row v 54 4 (M.map En.av) 0]) (Sub.trans (Sub.frzVar (b := r1)) (Sub.frzVar (b := r2))) ⟨by omega, by omega⟩ fun l' hl' => ?_
          have hok : spanL b ⟨d, hd.len⟩ cnt lo hi p L path = true := by rw [es]; simp_all [lt]
          rw [if_pos hok]
          dsimp only
          have hk : (M.filter fun e => !!inS lo hi e).length ≤ M.length := List.length_filter_le _ _
          simp only [Bool.not_not] at hk hl'
          have hk2 : (M.filter (inS lo hi)).length ≤ l'.length := by rw [hl'.1]; exact hk
          refine ⟨_, _, _, rfl, Sub.tuple (Sub.cons_sub (σ1 := []) (σ2 := []) (by simpa using hk2) (Sub.refl _ _)), ?_, rfl⟩
          simp only [Bool.not_not]
          rw [List.drop_zero, ← List.map_take, hl'.2]
          rfl
      · have hlow : ∀ (t : TypeId) (K : AV → Prop), Stp (Do (aBin Go.Proofs.Try.prog .add t (.val (.int .i64 p)) (.val (.int .i64 ((L.length : Nat) : Int)))) K) (K (.val (.int .i64 (p + L.length - 18446744073709551616)))) := fun t K => ⟨fun hK => by
          refine s_add ?_
          have : IntKind.wrap .i64 (p + ((L.length : Nat) : Int)) = p + L.length - 18446744073709551616 := by
            simp only [IntKind.wrap, IntKind.bits, IntKind.signed]
            simp
            split <;> omega
          rw [this]
          exact hK⟩
        have hcr : checkR b ⟨d, hd.len⟩ cnt p L path = false := by
          unfold checkR
          rw [decide_eq_false (by omega), Bool.false_and]
        have hff : ¬ (false : Bool) = true := by decide
        have hlt2 : p + L.length - 18446744073709551616 < cnt := by omega
        repeat' (first | with_reducible apply Stp.go | with_reducible refine imp fun _ => ?_ | (with_reducible refine hyp ?_ ?_; first | assumption | exact leftT_mem (by assumption)) | (with_reducible refine need ?_ ?_; first | trivial | omega | exact ⟨by assumption, by omega⟩ | (simp only [List.length_append, List.length_cons, List.length_nil, List.length_map, List.length_take, List.length_drop, List.length_replicate, List.length_set]; omega)) | (with_reducible refine fact ?_ ?_; first | trivial | exact ⟨rfl, rfl⟩ | kernel_rfl) | with_reducible refine choT (by assumption) ?_ | with_reducible refine choF (by assumption) ?_ | with_reducible refine choF' (by assumption) ?_ | (with_reducible refine altT ?_ ?_; first | omega | (simp only [List.length_append, List.length_cons, List.length_nil, List.length_map, List.length_take, List.length_drop, List.length_replicate, List.length_set]; omega)) | with_reducible refine altF ?_ | with_reducible refine all fun _ => ?_ | with_reducible refine both ?_ ?_ | (with_reducible refine choT ?_ ?_; omega) | (with_reducible refine choF ?_ ?_; omega) | with_reducible refine cho (fun _ => ?_) (fun _ => ?_))
        all_goals exact fin _ (by rw [es, hcr]; simp)
instance {b lev cnt : Int} {d f g lo hi : List UInt8} [hd : Len32 d] {p : Int} {L : List (List UInt8)} {path : List D32} : PC Go.Proofs.Try.prog 26 [trA b, tabA lev cnt d f g, S lo, S hi, spA p L path] (cnt ≤ 9223372036854775807 ∧ L.length ≤ 1000000 ∧ ∀ b ∈ L, b.length ≤ 100000000000000) (.tuple [.lst 4 ((spanC b ⟨d, hd.len⟩ cnt f g lo hi p L path).2.map En.av) .ro, I .i64 ((spanC b ⟨d, hd.len⟩ cnt f g lo hi p L path).1 : Nat)]) := ⟨fun hl => PC.of (CheckSpan_ok b lev cnt d f g lo hi p L path hl.1 hl.2.1 hl.2.2)⟩
end Go.Ab

/- The document's spans. -/
set_option linter.unusedVariables false
set_option linter.unusedSimpArgs false
namespace Go.Ab
/-- nil in a variable's cell, told as a row without elements. -/
theorem Sub.nilIn {b : Nat} {t : TypeId} {pre post : List AV} {σ : Store} (E : TypeId) {sz : Nat} (hz : 0 < sz) (us : List AV) : Sub (.var b t (pre ++ .val (.slice none 0 0) :: post) :: σ) us (.var b t (pre ++ .own (.slice none 0 0) 0 :: post) :: .row (.slice none 0 0) E sz [] 0 :: σ) us := by
  intro R w vs hv hs
  have hst : St R w (.var b t (pre ++ .own (.slice none 0 0) 0 :: post) :: σ) := by
    refine ⟨hs.ro, fun e he => ?_, List.pairwise_cons.2 ⟨(List.pairwise_cons.1 hs.apart).1, (List.pairwise_cons.1 hs.apart).2⟩⟩
    rcases List.mem_cons.1 he with rfl | he
    · obtain ⟨⟨ws, h1, h2, h3⟩, h4⟩ := hs.ents _ List.mem_cons_self
      refine ⟨⟨ws, h1, ⟨by rw [h2.1]; simp, fun j u v hu hv => ?_⟩, h3⟩, h4⟩
      rcases Nat.lt_trichotomy j pre.length with h | h | h
      · exact h2.2 j u v (by rw [List.getElem?_append_left h] at hu ⊢; exact hu) hv
      · subst h
        simp at hu
        subst hu
        have := h2.2 pre.length (.val (.slice none 0 0)) v (by simp) hv
        rw [this.val_inv]
        exact .own (.inl ⟨rfl, rfl⟩)
      · refine h2.2 j u v ?_ hv
        rw [List.getElem?_append_right (by omega)] at hu ⊢
        cases hn : j - pre.length with
        | zero => omega
        | succ n => rw [hn] at hu; simpa using hu
    · exact hs.ents e (List.mem_cons_of_mem _ he)
  obtain ⟨g1, g2⟩ := st_nilRow hst E hz
  refine ⟨R, hv, g1.perm (List.Perm.swap _ _ _), ⟨fun _ _ h => h, rfl, rfl, rfl, Nat.le_refl _, fun _ _ _ => rfl, fun k hk => .inl ?_, fun _ _ h => .inl h⟩⟩
  simpa [blks, Ent.blk, Value.ownBlock] using hk
theorem Sub.aggHead {σ σ1 : Store} {us us1 rest : List AV} (h : Sub σ us σ1 us1) : Sub σ (.agg us :: rest) σ1 (.agg us1 :: rest) := by
  intro R w vs hv hs
  obtain ⟨hl, hr⟩ := hv
  match vs, hl with
  | v :: vs, hl =>
    obtain ⟨xs, rfl, hx⟩ := (hr 0 _ v rfl rfl).agg_inv
    have hv' : VRs R vs rest := ⟨by simpa using hl, fun j u y hu hy => hr (j + 1) u y (by simpa using hu) (by simpa using hy)⟩
    obtain ⟨R', h1, h2, h3⟩ := h R w xs hx hs
    exact ⟨R', VRs.cons (VR.agg' h1) (hv'.mono h3.ro), h2, h3⟩
def ref12_SamePath.mark : Mark := ⟨fun t => false, fun t => false, fun t => false, fun t => Nat.beq t 20 || Nat.beq t 24, fun t => false⟩
def ref12_SamePath.ann : Ann := ⟨fun n => bif Nat.beq n 4 then [0, 1, 5] else [], fun n => none, fun n => none⟩
def ref12_SameOpening.mark : Mark := ⟨fun t => Nat.beq t 24, fun t => false, fun t => Nat.beq t 2 || Nat.beq t 3, fun t => Nat.beq t 6 || Nat.beq t 8 || Nat.beq t 12 || Nat.beq t 15 || Nat.beq t 21 || Nat.beq t 23, fun t => false⟩
def ref12_SameOpening.ann : Ann := ⟨fun n => [], fun n => none, fun n => none⟩
def ref12_SamePoint.mark : Mark := ⟨fun t => Nat.beq t 15 || Nat.beq t 22, fun t => false, fun t => Nat.beq t 2 || Nat.beq t 3, fun t => Nat.beq t 6 || Nat.beq t 8 || Nat.beq t 12 || Nat.beq t 14 || Nat.beq t 19 || Nat.beq t 21, fun t => false⟩
def ref12_SamePoint.ann : Ann := ⟨fun n => [], fun n => none, fun n => none⟩
def ref12_SameSpan.mark : Mark := ⟨fun t => Nat.beq t 25, fun t => false, fun t => Nat.beq t 2 || Nat.beq t 3, fun t => Nat.beq t 7 || Nat.beq t 9 || Nat.beq t 13 || Nat.beq t 16 || Nat.beq t 22 || Nat.beq t 24 || Nat.beq t 30 || Nat.beq t 36 || Nat.beq t 39 || Nat.beq t 42 || Nat.beq t 45, fun t => false⟩
def ref12_SameSpan.ann : Ann := ⟨fun n => bif Nat.beq n 4 then [2, 3, 5] else [], fun n => none, fun n => none⟩
def ref12_ProveSpan.mark : Mark := ⟨fun t => Nat.beq t 20 || Nat.beq t 87 || Nat.beq t 93, fun t => false, fun t => false, fun t => Nat.beq t 30 || Nat.beq t 40 || Nat.beq t 63 || Nat.beq t 74 || Nat.beq t 110, fun t => false⟩
def ref12_ProveSpan.ann : Ann := ⟨fun n => bif Nat.beq n 9 then [0, 1, 2, 3, 8, 11, 12, 13] else bif Nat.beq n 19 then [8, 12, 14, 17, 18] else [], fun n => bif Nat.beq n 13 then some [0, 1, 2, 3, 8, 11, 12, 13] else none, fun n => none⟩
def ref12_CheckSpan.mark : Mark := ⟨fun t => Nat.beq t 29 || Nat.beq t 66, fun t => false, fun t => Nat.beq t 6 || Nat.beq t 9, fun t => Nat.beq t 24 || Nat.beq t 26 || Nat.beq t 39 || Nat.beq t 44 || Nat.beq t 49 || Nat.beq t 51 || Nat.beq t 61 || Nat.beq t 64 || Nat.beq t 73 || Nat.beq t 76 || Nat.beq t 86 || Nat.beq t 88 || Nat.beq t 90 || Nat.beq t 93 || Nat.beq t 112 || Nat.beq t 131 || Nat.beq t 135, fun t => Nat.beq t 94 || Nat.beq t 96⟩
def ref12_CheckSpan.ann : Ann := ⟨fun n => bif Nat.beq n 8 then [0, 2, 3, 6, 9, 12, 14, 15, 16] else bif Nat.beq n 21 then [2, 3, 12, 15, 21, 22] else [], fun n => none, fun n => none⟩
instance (b : List UInt8) : AsF bl (.lst 1 (b.map byt) .ro) b := ⟨rfl⟩
end Go.Ab
