/- The texts that this claim needs, part 9: a logic over abstract values, its steps, what the functions do. No condition of its own. -/
import Derived.Shelf.SlSortCmp.NoneTotal
import Derived.Test.YtfbdncmmnelklaaTableBlocksK8
/- slices.SortFunc at entries: from the kit's contract to a call told of abstract states. -/
set_option linter.unusedVariables false
set_option linter.unusedSimpArgs false
namespace Go.Ab
open Go.Proofs Go.Shelf Go.RowKit Go.Lib Go.Sort
theorem isNaN_walk (x : ByteArray) (W : World) : Calls Go.Proofs.Try.prog 105 #[.string x] W fun e w' => e = .returned (.bool false) ∧ w' = W := by
  go_enter Go.Proofs.Try.func105, Go.Proofs.Try.ntmps105
  go_wp2
  go_ret
  exact ⟨rfl, rfl⟩
set_option maxHeartbeats 1000000 in
theorem compare_walk (a b : List UInt8) (W : World) : Calls Go.Proofs.Try.prog 89 #[.string ⟨a.toArray⟩, .string ⟨b.toArray⟩] W fun e w' => e = .returned (.int .i64 (cmpK a b)) ∧ w' = W := by
  have h86 := isNaN_walk
  have hg : ∀ w, (binOp .gtr 9 (.string ⟨a.toArray⟩) (.string ⟨b.toArray⟩)).run Go.Proofs.Try.prog w = .ok (.bool (!(Op.bytesLess a b || decide (a = b)))) w := fun w => by simp [binOp, Op.stringOp, bdec]
  have hl : Op.bytesLess (⟨a.toArray⟩ : ByteArray).toList (⟨b.toArray⟩ : ByteArray).toList = Op.bytesLess a b := by simp
  go_enter Go.Proofs.Try.func89, Go.Proofs.Try.ntmps89
  go_wp2_with (go_at_call 105; refine (h86 _ _).mono ?_; rintro e w' ⟨rfl, rfl⟩)
  all_goals go_ret
  all_goals refine ⟨?_, rfl⟩
  all_goals simp_all [cmpK, lt]
/-- An entry's cells. -/
def enc (e : En) : List Value := [.string ⟨e.key.toArray⟩, .string ⟨e.val.toArray⟩, .bool e.del, .int .i64 e.seq]
theorem byKey_walk (x y : En) (W : World) : Calls Go.Proofs.Try.prog 74 #[.agg (enc x).toArray, .agg (enc y).toArray] W fun e w' => e = .returned (.int .i64 (cmpK x.key y.key)) ∧ ∃ q os', w' = grow (W.drewN q) os' := by
  have hcon := fun W' => compare_walk x.key y.key W'
  simp only [enc]
  generalize cmpK x.key y.key = r at hcon ⊢
  go_enter Go.Proofs.Try.func74, Go.Proofs.Try.ntmps74
  go_wp2_with (go_at_call 89; refine (hcon _).mono ?_; rintro e w' ⟨rfl, rfl⟩)
  go_ret
  exact ⟨rfl, 0, _, by rw [alloc_eq_grow, alloc_eq_grow, grow_grow]; rfl⟩
theorem ltOf_key (x y : En) : ltOf (fun x y : En => cmpK x.key y.key) x y = lt x.key y.key := by
  unfold ltOf
  cases h : lt x.key y.key with
  | true => simp [cmpK, h]
  | false => have := (cmpK_neg x.key y.key).2 h; simp; omega
theorem swo_key : SWO (ltOf fun x y : En => cmpK x.key y.key) where
  irrefl x := by rw [ltOf_key, lt_irrefl]
  trans x y z h1 h2 := by rw [ltOf_key] at *; exact lt_trans' h1 h2
  ntrans x y z h1 h2 := by
    rw [ltOf_key] at *
    cases h : lt x.key z.key with
    | false => rfl
    | true => rw [lt_of_ge h1 h] at h2; cases h2
theorem flat_enc (l : List En) : flat (l.map En.av) = (l.flatMap enc).map .val := by
  induction l with
  | nil => rfl
  | cons e l ih =>
    simp only [List.map_cons, List.flatMap_cons, List.map_append, ← ih]
    rfl
theorem flatK_enc (d : Array En) : (flatK enc 4 d).toList = d.toList.flatMap enc := by
  obtain ⟨l, rfl⟩ : ∃ l, d = List.toArray l := ⟨d.toList, by simp⟩
  have hf : ∀ l : List En, (l.flatMap enc).length = l.length * 4 := fun l => by
    induction l with
    | nil => rfl
    | cons e l ih => simp only [List.flatMap_cons, List.length_append, ih, List.length_cons, enc, List.length_nil]; omega
  have hg : ∀ (l : List En) (t : Nat), t < l.length * 4 → (l.flatMap enc)[t]? = some ((enc (l.getD (t / 4) default))[t % 4]!) := by
    intro l
    induction l with
    | nil => intro t ht; simp at ht
    | cons e l ih =>
      intro t ht
      rcases Nat.lt_or_ge t 4 with h4 | h4
      · rw [List.flatMap_cons, List.getElem?_append_left (by simpa [enc] using h4)]
        have e1 : t / 4 = 0 := by omega
        have e2 : t % 4 = t := by omega
        rw [e1, e2, List.getD_cons_zero, List.getElem!_eq_getElem?_getD, List.getElem?_eq_getElem (by simpa [enc] using h4)]
        rfl
      · rw [List.flatMap_cons, List.getElem?_append_right (by simpa [enc] using h4)]
        have e3 : (enc e).length = 4 := rfl
        obtain ⟨u, rfl⟩ : ∃ u, t = u + 4 := ⟨t - 4, by omega⟩
        have e1 : (u + 4) / 4 = u / 4 + 1 := by omega
        have e2 : (u + 4) % 4 = u % 4 := by omega
        rw [e3, Nat.add_sub_cancel, e1, e2, List.getD_cons_succ]
        exact ih u (by simp at ht; omega)
  apply List.ext_getElem?
  intro t
  rcases Nat.lt_or_ge t (l.length * 4) with h | h
  · rw [show (List.toArray l).toList = l from rfl, hg l t h]
    have hs : t < (flatK enc 4 l.toArray).size := by simpa using h
    have := get_flatK enc 4 l.toArray t (by simpa using h)
    rw [getElem!_pos _ t hs] at this
    rw [Array.getElem?_toList, Array.getElem?_eq_getElem hs, this]
    simp [List.getD_eq_getElem?_getD, Array.getElem!_eq_getD, Array.getD]
    by_cases h4 : t / 4 < l.length <;> simp [h4]
  · rw [List.getElem?_eq_none (by simpa using h), List.getElem?_eq_none (by rw [hf]; exact h)]
theorem flatMap_enc_length : ∀ l : List En, (l.flatMap enc).length = l.length * 4
  | [] => rfl
  | e :: l => by simp only [List.flatMap_cons, List.length_append, flatMap_enc_length l, List.length_cons, enc, List.length_nil]; omega
theorem enc_one (l : List En) : ∀ v ∈ l.flatMap enc, v.oneCell' = true := by
  intro v hv
  obtain ⟨e, _, h⟩ := List.mem_flatMap.1 hv
  simp only [enc, List.mem_cons, List.not_mem_nil, or_false] at h
  rcases h with rfl | rfl | rfl | rfl <;> rfl
theorem grown_grow (w : World) (os : Array Obj) : w.grownBy (grow w os) none := ⟨rfl, rfl, rfl, by simp, fun k hk _ => heap_grow_old w os hk⟩
theorem body_sort : HasBody Go.Proofs.Try.prog 82 := ⟨Go.Proofs.Try.f82, _, by kernel_rfl, rfl, by kernel_rfl⟩
theorem sort_ok (l : List En) (v : Value) (σ1 σ2 : Store) (hlen : l.length < 4611686018427387904) : ACalls Go.Proofs.Try.prog 82 [.own v l.length, .val (.func (.func 74) #[] #[])] (σ1 ++ .row v 52 4 (l.map En.av) 0 :: σ2)
    fun x σ' => ∃ l' : List En, (l'.Perm l ∧ l'.Pairwise fun a b => lt b.key a.key = false) ∧ x = .ret (.tuple []) ∧ σ' = σ1 ++ .row v 52 4 (l'.map En.av) 0 :: σ2 := by
  refine ⟨body_sort, fun R w vs hv hs => ?_⟩
  obtain ⟨hvl, hvr⟩ := hv
  match vs, hvl with
  | [x, y], _ =>
    have hx := (hvr 0 _ x rfl rfl).own_inv.1
    have hy := (hvr 1 _ y rfl rfl).val_inv
    subst hx; subst hy
    obtain ⟨h1, h2, ⟨xs, hown, hxs, hone⟩, hmx, hR⟩ := hs.ents (.row x 52 4 (l.map En.av) 0) (by simp)
    have hxs' : xs = l.flatMap enc := VRs.toVals (by rw [← flat_enc]; exact hxs)
    subst hxs'
    obtain ⟨hlx, hown⟩ := hown
    rw [List.length_map] at hlx hown
    rcases hown with ⟨rfl, h0⟩ | ⟨g, cap, cur, rfl, hg0, hg, hnc, hcap, hsz, hcur⟩
    · have hl0 : l = [] := List.length_eq_zero_iff.1 h0
      subst hl0
      refine (AnyF.slices_SortFunc_none Go.Proofs.Try.sortEn none 0 _ w).mono ?_
      rintro e w' ⟨rfl, rfl⟩
      exact ⟨.ret (.tuple []), R, _, VR.tuple' (VRs.nil R), ⟨[], ⟨List.Perm.refl _, List.Pairwise.nil⟩, rfl, rfl⟩, hs, Ext.refl _ _ _⟩
    · have hgl : g < w.heap.size := by
        rcases Nat.lt_or_ge g w.heap.size with h | h
        · exact h
        · rw [Array.getElem?_eq_none h] at hg; cases hg
      have eg : ∀ args w, (callFunc 74 args).run Go.Proofs.Try.prog w = .ok (.enter 74 args) w := enters_of Go.Proofs.Try.func74 (by kernel_rfl) rfl
      have hfk := flatK_enc l.toArray
      have hH : HoldsK enc 4 w g 0 l.toArray := by
        intro j hj
        have hj' : j < l.length * 4 := by simpa using hj
        have hc : cur.toList[j]? = (l.flatMap enc)[j]? := by
          rw [← hcur, List.getElem?_take, if_pos hj']
        have hc2 : cur[j]? = some ((flatK enc 4 l.toArray)[j]!) := by
          rw [← Array.getElem?_toList, hc, ← hfk, Array.getElem?_toList, getElem!_pos _ j hj, Array.getElem?_eq_getElem hj]
        exact ⟨by simp only [World.cell?, hg, Nat.zero_add]; simpa using hc2, by simp [World.frozen?, hg]⟩
      have hcon := AnyQ.slices_SortFunc Go.Proofs.Try.sortEn 4 Go.Proofs.Try.isAgg52 Go.Proofs.Try.sizeOf52 enc (fun _ => rfl) (fun e u hu => enc_one [e] u (by simpa using hu)) (fun x y => cmpK x.key y.key) swo_key 74 #[] g 0 cap l.toArray w eg (fun _ _ _ _ x y => byKey_walk x y _) hH hgl (by simpa using hlen)
      refine hcon.mono ?_
      rintro e w' ⟨rfl, d', n, os, hp, hso, rfl⟩
      obtain ⟨hds, _, hpm⟩ := hp
      have hds : d'.size = l.length := by simpa using hds
      have hperm : d'.toList.Perm l := by
        have h3 := hpm
        simp only [List.size_toArray, ← hds, Array.extract_size] at h3
        rw [hds, show l.length = l.toArray.size from rfl, Array.extract_size] at h3
        exact h3
      have hpw : d'.toList.Pairwise fun a b => lt b.key a.key = false := by
        rw [List.pairwise_iff_getElem]
        intro i j hi hj hij
        have := hso i j (Nat.zero_le _) hij (by simpa [← hds] using hj)
        rw [ltOf_key, getElem!_pos d' j (by simpa using hj), getElem!_pos d' i (by simpa using hi)] at this
        simpa using this
      obtain ⟨cur', hcur'⟩ : ∃ c, c = putCells id 0 (flatK enc 4 d') cur := ⟨_, rfl⟩
      have hmod : ∀ k, (putRowK enc 4 (Go.Sort.ahead w n) g 0 d').heap[k]? = if k = g then some (.cells cur' 52 (0, 0)) else w.heap[k]? := by
        intro k
        show (w.heap.modify g _)[k]? = _
        rw [Array.getElem?_modify]
        by_cases hk : k = g
        · subst hk
          rw [if_pos rfl, if_pos rfl, hg, hcur']
          rfl
        · rw [if_neg (fun h => hk h.symm), if_neg hk]
      have htake : cur'.toList.take (l.length * 4) = d'.toList.flatMap enc := by
        rw [← flatK_enc, hcur']
        apply List.ext_getElem?
        intro t
        have hfs : (flatK enc 4 d').size = l.length * 4 := by simp [hds]
        have hcs : l.length * 4 ≤ cur.size := by rw [hsz]; exact Nat.mul_le_mul_right 4 hnc
        rcases Nat.lt_or_ge t (l.length * 4) with h | h
        · rw [List.getElem?_take, if_pos h, Array.getElem?_toList, Array.getElem?_toList]
          unfold putCells
          rw [Array.getElem?_mapIdx, Array.getElem?_eq_getElem (by omega : t < cur.size), Array.getElem?_eq_getElem (by omega : t < (flatK enc 4 d').size)]
          simp only [Option.map_some, Nat.zero_le, true_and, Nat.zero_add, Nat.sub_zero, id_eq]
          rw [if_pos (by omega), getElem!_pos _ t (by omega)]
        · rw [List.getElem?_eq_none (by simp; omega), List.getElem?_eq_none (by simp; omega)]
      have hcs' : cur'.size = cap * 4 := by rw [hcur']; simp [putCells, hsz]
      have hE : EntOk R (putRowK enc 4 (Go.Sort.ahead w n) g 0 d') (.row (.slice (some ⟨g, 0, none⟩) l.length cap) 52 4 (d'.toList.map En.av) 0) := by
        refine ⟨h1, fun e he => ?_, ⟨d'.toList.flatMap enc, ⟨?_, .inr ⟨g, cap, cur', ?_, hg0, ?_, ?_, hcap, hcs', ?_⟩⟩, ?_, enc_one _⟩, ?_, fun a x ha hb => ?_⟩
        · obtain ⟨e0, _, rfl⟩ := List.mem_map.1 he
          rfl
        · rw [flatMap_enc_length]; simp
        · simp [hds]
        · rw [hmod, if_pos rfl]
        · simpa [hds] using hnc
        · simpa [hds] using htake
        · rw [flat_enc]; exact VRs.ofVals R _
        · simpa [hds] using hmx
        · have := hR a x ha hb
          omega
      have hst := st_change (b := g) (e' := .row (.slice (some ⟨g, 0, none⟩) l.length cap) 52 4 (d'.toList.map En.av) 0) hs rfl rfl (w' := putRowK enc 4 (Go.Sort.ahead w n) g 0 d') rfl rfl rfl (by show (w.heap.modify g _).size = _; simp) (fun k hk => by rw [hmod, if_neg hk]) (fun a x ha hb => by
        have := hR a x ha (by simp [Value.ownBlock, hb])
        omega) hE
      obtain ⟨q1, q2⟩ := hst
      obtain ⟨q3, q4⟩ := st_roNew q1 (grown_grow _ os)
      exact ⟨.ret (.tuple []), _, _, VR.tuple' (VRs.nil _), ⟨d'.toList, ⟨hperm, hpw⟩, rfl, rfl⟩, q3, q2.trans q4⟩
instance sortQ {l : List En} {v : Value} {n : Nat} {σ rest : Store} {put : Ent → Store} [hr : RowAt v σ 52 4 (l.map En.av) 0 put rest] :
    EQ Go.Proofs.Try.prog 82 [.own v n, .val (.func (.func 74) #[] #[])] σ (n = l.length ∧ l.length < 4611686018427387904) (List En) (fun l' => l'.Perm l ∧ l'.Pairwise fun a b => lt b.key a.key = false) (fun _ => .tuple []) (fun l' => put (.row v 52 4 (l'.map En.av) 0)) := ⟨fun ⟨h1, h2⟩ => by
  obtain ⟨σ1, σ2, e, e2, _⟩ := hr.at_
  subst h1; subst e
  simp only [e2]
  exact sort_ok l v σ1 σ2 h2⟩
end Go.Ab

/- The code's fold. -/
set_option linter.unusedVariables false
set_option linter.unusedSimpArgs false
namespace Go.Ab
def entry_Fold.mark : Mark := ⟨fun t => false, fun t => false, fun t => false, fun t => Nat.beq t 17, fun t => Nat.beq t 40⟩
def entry_Fold.ann : Ann := ⟨fun n => bif Nat.beq n 3 then [3, 12, 13, 14] else bif Nat.beq n 11 then [8, 43] else [], fun n => none, fun n => none⟩
/-- 'marlstone/entry.Fold' -/
def entry_Fold.sh (a0 : AV) (σ : Store) (Q : AEnd → Store → Prop) : Prop :=
  aHook (eMakeMap σ) fun t11 σ =>
  Do (aBuiltin Go.Proofs.Try.prog .len #[22] [a0]) fun t13 =>
  aLoop (fun go vs σ_1 =>
    At vs 0 fun s3 => At vs 1 fun s12 => At vs 2 fun s13 => At vs 3 fun s14 => Do (aBin Go.Proofs.Try.prog .lss 3 s14 s13) fun t15 =>
    aCond t15
      (Do (aIndexAddr .slice 4 s12 s14) fun t16 =>
    Do (loadF true 4 t16) fun t17 =>
    aNewVar 52 [.val (.string ⟨#[]⟩), .val (.string ⟨#[]⟩), .val (.bool false), .val (.int .i64 0)] σ_1 fun t5 σ_2 =>
    storeA 4 t5 t17 σ_2 fun u σ_3 =>
    Do (aFieldAddr 0 1 t5) fun t20 =>
    Do (loadA false 1 t20 σ_3) fun t21 =>
    Do (lookA Go.Proofs.Try.prog 115 true s3 t21 σ_3) fun t22 =>
    Do (aExt t22 0) fun t23 =>
    Do (aExt t22 1) fun t24 =>
    aNewVar 52 [.val (.string ⟨#[]⟩), .val (.string ⟨#[]⟩), .val (.bool false), .val (.int .i64 0)] σ_3 fun t6 σ_4 =>
    storeA 4 t6 t23 σ_4 fun u_1 σ_5 =>
    Do (aUn Go.Proofs.Try.prog .not t24) fun t26 =>
    Do (aGuard t26 false (aFieldAddr 3 1 t5)) fun t28 =>
    Do (aGuard t26 false (loadA false 1 t28 σ_5)) fun t29 =>
    Do (aGuard t26 false (aFieldAddr 3 1 t6)) fun t30 =>
    Do (aGuard t26 false (loadA false 1 t30 σ_5)) fun t31 =>
    Do (aGuard t26 false (aBin Go.Proofs.Try.prog .geq 3 t29 t31)) fun t32 =>
    Do (aPick t26 (.val (.bool true)) t32) fun t33 =>
    aCond t33
      (Do (aFieldAddr 0 1 t5) fun t35 =>
      Do (loadA false 1 t35 σ_5) fun t36 =>
      Do (loadA true 4 t5 σ_5) fun t37 =>
      aHook (eMapUpd Go.Proofs.Try.prog 115 s3 t36 t37 σ_5) fun u_2 σ_6 =>
      Do (aBin Go.Proofs.Try.prog .add 3 s14 (.val (.int .i64 1))) fun t38 =>
    go [s3, s12, s13, t38] σ_6)
      (Do (aBin Go.Proofs.Try.prog .add 3 s14 (.val (.int .i64 1))) fun t38_1 =>
    go [s3, s12, s13, t38_1] σ_5))
      (Do (lenMA Go.Proofs.Try.prog 115 s3 σ_1) fun t40 =>
  aMake 52 [(.string ⟨#[]⟩), (.string ⟨#[]⟩), (.bool false), (.int .i64 0)] 4 48 (.val (.int .i64 0)) t40 σ_1 (subK fun t41 σ_7 =>
  aHook (eRange Go.Proofs.Try.prog 115 s3 σ_7) fun t43 σ_8 =>
  aLoop (fun go_1 vs_1 σ_9 =>
    At vs_1 0 fun s8 => At vs_1 1 fun s43 => aHook (eNext s43 σ_9) fun t44 σ_10 =>
    Do (aExt t44 0) fun t45 =>
    aCond t45
      (Do (entryA s43 σ_10) fun t46 =>
    Do (aExt t46 1) fun t47 =>
    aNewVar 52 [.val (.string ⟨#[]⟩), .val (.string ⟨#[]⟩), .val (.bool false), .val (.int .i64 0)] σ_10 fun t10 σ_11 =>
    storeA 4 t10 t47 σ_11 fun u_3 σ_12 =>
    Do (loadA true 4 t10 σ_12) fun t49 =>
    Do (aSlLit (mkE [.val (.string ⟨#[]⟩), .val (.string ⟨#[]⟩), .val (.bool false), .val (.int .i64 0)]) 4 1 [(0, t49)]) fun t50 =>
    aAppend 52 4 48 s8 t50 σ_12 (subK fun t51 σ_13 =>
    go_1 [t51, s43] σ_13))
      (aCall Go.Proofs.Try.prog 82 [s8, (.val (.func (.func 74) #[] #[]))] σ_10 (fun t53 σ_14 =>
  Q (.ret s8) σ_14) (fun e σ_15 => Q (.pan e) σ_15)))
    [t41, t43] σ_8)))
    [t11, a0, t13, (.val (.int .i64 0))] σ
theorem entry_Fold.eq (a0 : AV) (σ : Store) (Q : AEnd → Store → Prop) : vc (semOf Go.Proofs.Try.prog entry_Fold.mark) Go.Proofs.Try.f57.ntmps entry_Fold.ann (bodyOf Go.Proofs.Try.f57) (endK [.tmp 2] Q) (argFr [a0]) σ = entry_Fold.sh a0 σ Q := by kernel_rfl
theorem entry_Fold.go {a0 : AV} {σ : Store} {Q : AEnd → Store → Prop} (h : entry_Fold.sh a0 σ Q) : ACalls Go.Proofs.Try.prog 57 [a0] σ Q :=
  acalls_of_eq [.tmp 2] Go.Proofs.Try.func57 (by kernel_rfl) (by kernel_rfl) (by kernel_rfl) (by kernel_rfl) (entry_Fold.eq a0 σ Q) h
theorem Fold_ok (l : List En) (m : SM) (hl : l.length ≤ 1000000000) : ACalls Go.Proofs.Try.prog 57 [.lst 4 (l.map En.av) m] [] fun x σ' => ∃ v, x = .ret (.own v (foldE l).length) ∧ σ' = [.row v 52 4 ((foldE l).map En.av) 0] := by
  refine ACalls.fin (entry_Fold.go ?_)
  unfold entry_Fold.sh
  repeat' (first | with_reducible apply Stp.go | with_reducible refine imp fun _ => ?_ | (with_reducible refine hyp ?_ ?_; first | assumption | exact leftT_mem (by assumption)) | (with_reducible refine need ?_ ?_; first | trivial | omega | exact ⟨by assumption, by omega⟩ | (simp only [List.length_append, List.length_cons, List.length_nil, List.length_map, List.length_take, List.length_drop, List.length_replicate, List.length_set]; omega)) | (with_reducible refine fact ?_ ?_; first | trivial | exact ⟨rfl, rfl⟩ | kernel_rfl) | with_reducible refine choT (by assumption) ?_ | with_reducible refine choF (by assumption) ?_ | with_reducible refine choF' (by assumption) ?_ | (with_reducible refine altT ?_ ?_; first | omega | (simp only [List.length_append, List.length_cons, List.length_nil, List.length_map, List.length_take, List.length_drop, List.length_replicate, List.length_set]; omega)) | with_reducible refine altF ?_ | with_reducible refine all fun _ => ?_ | with_reducible refine both ?_ ?_ | (with_reducible refine choT ?_ ?_; omega) | (with_reducible refine choF ?_ ?_; omega) | with_reducible refine cho (fun _ => ?_) (fun _ => ?_))
  rename_i mb
  refine loopI (β := Nat × List (Nat × List UInt8 × En) × Nat) (fun x => x.1 ≤ l.length ∧ Tbl x.2.1 x.2.2 (foldE (l.take x.1)) ∧ x.2.1.length ≤ x.1) (fun x => [.val (.map (some mb)), .lst 4 (l.map En.av) m, I .i64 (l.length : Nat), I .i64 (x.1 : Nat)])
    (fun x => [.map mb (mkM keyS En.av x.2.1) x.2.2]) (fun x => l.length - x.1) (0, [], 0) ⟨Nat.zero_le _, Tbl.nil, Nat.le_refl _⟩ (Sub.refl _ _) ?_
  rintro ⟨i, L, c⟩ ⟨hi, ht, hL⟩
  dsimp only at hi ht hL ⊢
  have hF := foldE_rises (l.take i)
  by_cases hlt : i < l.length
  · have hs := foldE_take_succ hlt
    have hset := ht.set hF (e := l.getD i default)
    have hkeep := fun x => ht.keep hF (e := l.getD i default) (x := x)
    have hsl := setT_length (l.getD i default).key (l.getD i default) c L
    rw [← hs] at hset hkeep
    repeat' (first | with_reducible apply Stp.go | with_reducible refine imp fun _ => ?_ | (with_reducible refine hyp ?_ ?_; first | assumption | exact leftT_mem (by assumption)) | (with_reducible refine need ?_ ?_; first | trivial | omega | exact ⟨by assumption, by omega⟩ | (simp only [List.length_append, List.length_cons, List.length_nil, List.length_map, List.length_take, List.length_drop, List.length_replicate, List.length_set]; omega)) | (with_reducible refine fact ?_ ?_; first | trivial | exact ⟨rfl, rfl⟩ | kernel_rfl) | with_reducible refine choT (by assumption) ?_ | with_reducible refine choF (by assumption) ?_ | with_reducible refine choF' (by assumption) ?_ | (with_reducible refine altT ?_ ?_; first | omega | (simp only [List.length_append, List.length_cons, List.length_nil, List.length_map, List.length_take, List.length_drop, List.length_replicate, List.length_set]; omega)) | with_reducible refine altF ?_ | with_reducible refine all fun _ => ?_ | with_reducible refine both ?_ ?_ | (with_reducible refine choT ?_ ?_; omega) | (with_reducible refine choF ?_ ?_; omega) | with_reducible refine cho (fun _ => ?_) (fun _ => ?_))
    · rename_i h1 h2
      refine again (i + 1, setT (l.getD i default).key (l.getD i default) c L, bif hasT (l.getD i default).key L then c else c + 1) (by dsimp only; omega) ⟨by dsimp only; omega, hset fun x hx => by rw [hx] at h2; exact h2, by dsimp only; omega⟩ ?_
      exact subS _
    · rename_i h1 h2
      obtain ⟨x, hx⟩ := Option.isSome_iff_exists.1 h1
      rw [hx] at h2
      refine again (i + 1, L, c) (by dsimp only; omega) ⟨by dsimp only; omega, hkeep x hx h2, by dsimp only; omega⟩ ?_
      exact subS _
    · rename_i h1
      refine again (i + 1, setT (l.getD i default).key (l.getD i default) c L, bif hasT (l.getD i default).key L then c else c + 1) (by dsimp only; omega) ⟨by dsimp only; omega, hset fun x hx => by rw [hx] at h1; exact absurd rfl h1, by dsimp only; omega⟩ ?_
      exact subS _
  · have e : l.take i = l := List.take_of_length_le (by omega)
    rw [e] at ht hF
    repeat' (first | with_reducible apply Stp.go | with_reducible refine imp fun _ => ?_ | (with_reducible refine hyp ?_ ?_; first | assumption | exact leftT_mem (by assumption)) | (with_reducible refine need ?_ ?_; first | trivial | omega | exact ⟨by assumption, by omega⟩ | (simp only [List.length_append, List.length_cons, List.length_nil, List.length_map, List.length_take, List.length_drop, List.length_replicate, List.length_set]; omega)) | (with_reducible refine fact ?_ ?_; first | trivial | exact ⟨rfl, rfl⟩ | kernel_rfl) | with_reducible refine choT (by assumption) ?_ | with_reducible refine choF (by assumption) ?_ | with_reducible refine choF' (by assumption) ?_ | (with_reducible refine altT ?_ ?_; first | omega | (simp only [List.length_append, List.length_cons, List.length_nil, List.length_map, List.length_take, List.length_drop, List.length_replicate, List.length_set]; omega)) | with_reducible refine altF ?_ | with_reducible refine all fun _ => ?_ | with_reducible refine both ?_ ?_ | (with_reducible refine choT ?_ ?_; omega) | (with_reducible refine choF ?_ ?_; omega) | with_reducible refine cho (fun _ => ?_) (fun _ => ?_))
    rename_i v0 it
    refine loopI (β := Value × List En × List Nat) (fun x => (x.2.1 ++ (leftT L x.2.2).map (·.2.2)).Perm (L.map (·.2.2))) (fun x => [.own x.1 x.2.1.length, ptrAt it 0])
      (fun x => [.iter it mb c x.2.2 c, .row x.1 52 4 (x.2.1.map En.av) 0, .map mb (mkM keyS En.av L) c]) (fun x => (leftT L x.2.2).length) (v0, [], []) ?_ (Sub.refl _ _) ?_
    · dsimp only
      rw [left_nil]
      exact List.Perm.refl _
    · rintro ⟨v, o, seen⟩ hp
      dsimp only at hp ⊢
      have hol : o.length ≤ L.length := by
        have := hp.length_eq
        simp only [List.length_append, List.length_map] at this
        omega
      repeat' (first | with_reducible apply Stp.go | with_reducible refine imp fun _ => ?_ | (with_reducible refine hyp ?_ ?_; first | assumption | exact leftT_mem (by assumption)) | (with_reducible refine need ?_ ?_; first | trivial | omega | exact ⟨by assumption, by omega⟩ | (simp only [List.length_append, List.length_cons, List.length_nil, List.length_map, List.length_take, List.length_drop, List.length_replicate, List.length_set]; omega)) | (with_reducible refine fact ?_ ?_; first | trivial | exact ⟨rfl, rfl⟩ | kernel_rfl) | with_reducible refine choT (by assumption) ?_ | with_reducible refine choF (by assumption) ?_ | with_reducible refine choF' (by assumption) ?_ | (with_reducible refine altT ?_ ?_; first | omega | (simp only [List.length_append, List.length_cons, List.length_nil, List.length_map, List.length_take, List.length_drop, List.length_replicate, List.length_set]; omega)) | with_reducible refine altF ?_ | with_reducible refine all fun _ => ?_ | with_reducible refine both ?_ ?_ | (with_reducible refine choT ?_ ?_; omega) | (with_reducible refine choF ?_ ?_; omega) | with_reducible refine cho (fun _ => ?_) (fun _ => ?_))
      · rename_i h0 o' hq
        rw [h0, List.map_nil, List.append_nil] at hp
        have e1 : o' = foldE l := ht.sorted hF (hq.1.trans hp) hq.2
        have e2 : o.length = (foldE l).length := by rw [← e1]; exact hq.1.length_eq.symm
        subst e1
        exact ⟨_, _, _, rfl, subS _, v, by rw [e2], rfl⟩
      · rename_i x hx t w
        have hlt := left_take ht.nb hx
        refine again (w, o ++ [x.2.2], seen ++ [x.1]) ?_ ?_ ?_
        · have := hlt.length_eq
          simp only [List.length_cons] at this
          dsimp only
          omega
        · dsimp only
          rw [List.append_assoc]
          exact ((((hlt.map (·.2.2)).symm).append_left o)).trans hp
        · exact subS _
theorem Fold_pure (l : List En) (m : SM) (hl : l.length ≤ 1000000000) : aPure Go.Proofs.Try.prog 57 [.lst 4 (l.map En.av) m] (.lst 4 ((foldE l).map En.av) .ro) :=
  ACalls.fin ((Fold_ok l m hl).mono fun x τ ⟨v, e1, e2⟩ => ⟨_, _, _, e1, by rw [e2]; exact retOwn (Sub.refl _ _), rfl, rfl⟩)
instance {a : AV} {l : List En} {m : SM} [h : IsL a En.av 4 l m] : PC Go.Proofs.Try.prog 57 [a] (l.length ≤ 1000000000) (.lst 4 ((foldE l).map En.av) .ro) := ⟨fun hl => ⟨[.lst 4 (l.map En.av) m], ⟨h.sub, trivial⟩, Fold_pure l m hl⟩⟩
end Go.Ab

/- Layer 11: few entries; those that are right, folded. -/
set_option linter.unusedVariables false
set_option linter.unusedSimpArgs false
namespace Go.Ab
def law11_few.mark : Mark := ⟨fun t => false, fun t => false, fun t => false, fun t => Nat.beq t 22, fun t => false⟩
def law11_few.ann : Ann := ⟨fun n => bif Nat.beq n 3 then [0, 1, 5, 6] else [], fun n => none, fun n => none⟩
/-- 'marlstone/marlstonelaw11.few' -/
def law11_few.sh (a0 a1 : AV) (σ : Store) (Q : AEnd → Store → Prop) : Prop :=
  aLoop (fun go vs σ =>
    At vs 0 fun s0 => At vs 1 fun s1 => At vs 2 fun s5 => At vs 3 fun s6 => Do (aBuiltin Go.Proofs.Try.prog .len #[22] [s0]) fun t10 =>
    Do (aBin Go.Proofs.Try.prog .lss 3 s6 t10) fun t11 =>
    Do (aGuard t11 true (aIs s6)) fun t13 =>
    Do (aGuard t11 true (aIs s1)) fun t14 =>
    Do (aGuard t11 true (aBin Go.Proofs.Try.prog .lss 3 t13 t14)) fun t15 =>
    Do (aPick t11 t15 (.val (.bool false))) fun t16 =>
    aCond t16
      (Do (aIndexAddr .slice 4 s0 s6) fun t21 =>
    Do (loadF true 4 t21) fun t22 =>
    aNewVar 52 [.val (.string ⟨#[]⟩), .val (.string ⟨#[]⟩), .val (.bool false), .val (.int .i64 0)] σ fun t7 σ_1 =>
    storeA 4 t7 t22 σ_1 fun u σ_2 =>
    Do (aFieldAddr 0 1 t7) fun t23 =>
    Do (loadA false 1 t23 σ_2) fun t24 =>
    Do (aFieldAddr 0 1 t7) fun t25 =>
    Do (loadA false 1 t25 σ_2) fun t26 =>
    Do (aBuiltin Go.Proofs.Try.prog .len #[9] [t26]) fun t27 =>
    Do (aBuiltin Go.Proofs.Try.prog .min #[3, 3] [t27, (.val (.int .i64 130))]) fun t28 =>
    Do (aSlice .string 1 t24 none (some t28) none) fun t29 =>
    Do (aFieldAddr 0 1 t7) fun t30 =>
    storeA 1 t30 t29 σ_2 fun u_1 σ_3 =>
    Do (aFieldAddr 1 1 t7) fun t31 =>
    Do (loadA false 1 t31 σ_3) fun t32 =>
    Do (aFieldAddr 1 1 t7) fun t33 =>
    Do (loadA false 1 t33 σ_3) fun t34 =>
    Do (aBuiltin Go.Proofs.Try.prog .len #[9] [t34]) fun t35 =>
    Do (aBuiltin Go.Proofs.Try.prog .min #[3, 3] [t35, (.val (.int .i64 1030))]) fun t36 =>
    Do (aSlice .string 1 t32 none (some t36) none) fun t37 =>
    Do (aFieldAddr 1 1 t7) fun t38 =>
    storeA 1 t38 t37 σ_3 fun u_2 σ_4 =>
    Do (loadA true 4 t7 σ_4) fun t40 =>
    Do (aSlLit (mkE [.val (.string ⟨#[]⟩), .val (.string ⟨#[]⟩), .val (.bool false), .val (.int .i64 0)]) 4 1 [(0, t40)]) fun t41 =>
    aAppend 52 4 48 s5 t41 σ_4 (subK fun t42 σ_5 =>
    Do (aBin Go.Proofs.Try.prog .add 3 s6 (.val (.int .i64 1))) fun t18 =>
    go [s0, s1, t42, t18] σ_5))
      (Q (.ret s5) σ))
    [a0, a1, (.val (.slice none 0 0)), (.val (.int .i64 0))] σ
theorem law11_few.eq (a0 a1 : AV) (σ : Store) (Q : AEnd → Store → Prop) : vc (semOf Go.Proofs.Try.prog law11_few.mark) Go.Proofs.Try.f12.ntmps law11_few.ann (bodyOf Go.Proofs.Try.f12) (endK [.tmp 4] Q) (argFr [a0, a1]) σ = law11_few.sh a0 a1 σ Q := by kernel_rfl
theorem law11_few.go {a0 a1 : AV} {σ : Store} {Q : AEnd → Store → Prop} (h : law11_few.sh a0 a1 σ Q) : ACalls Go.Proofs.Try.prog 12 [a0, a1] σ Q :=
  acalls_of_eq [.tmp 4] Go.Proofs.Try.func12 (by kernel_rfl) (by kernel_rfl) (by kernel_rfl) (by kernel_rfl) (law11_few.eq a0 a1 σ Q) h
def law11_fit.mark : Mark := ⟨fun t => Nat.beq t 7 || Nat.beq t 8 || Nat.beq t 24, fun t => false, fun t => false, fun t => Nat.beq t 23 || Nat.beq t 29, fun t => false⟩
def law11_fit.ann : Ann := ⟨fun n => bif Nat.beq n 4 then [3, 4, 5] else [], fun n => none, fun n => none⟩
/-- 'marlstone/marlstonelaw11.fit' -/
def law11_fit.sh (a0 : AV) (σ : Store) (Q : AEnd → Store → Prop) : Prop :=
  Do (aPureC Go.Proofs.Try.prog 12 [a0, (.val (.int .i64 70))]) fun t7 =>
  Do (aPureC Go.Proofs.Try.prog 57 [t7]) fun t8 =>
  aLoop (fun go vs σ =>
    At vs 0 fun s3 => At vs 1 fun s4 => At vs 2 fun s5 => Do (aBuiltin Go.Proofs.Try.prog .len #[22] [s4]) fun t11 =>
    Do (aBin Go.Proofs.Try.prog .lss 3 s5 t11) fun t12 =>
    Do (aGuard t12 true (aIs s3)) fun t14 =>
    Do (aGuard t12 true (aBuiltin Go.Proofs.Try.prog .len #[22] [t14])) fun t15 =>
    Do (aGuard t12 true (aBin Go.Proofs.Try.prog .lss 3 t15 (.val (.int .i64 64)))) fun t16 =>
    Do (aPick t12 t16 (.val (.bool false))) fun t17 =>
    aCond t17
      (Do (aIndexAddr .slice 4 s4 s5) fun t22 =>
    Do (loadF true 4 t22) fun t23 =>
    Do (aPureC Go.Proofs.Try.prog 46 [t23]) fun t24 =>
    aCond t24
      (Do (aIndexAddr .slice 4 s4 s5) fun t28 =>
      Do (loadF true 4 t28) fun t29 =>
      Do (aSlLit (mkE [.val (.string ⟨#[]⟩), .val (.string ⟨#[]⟩), .val (.bool false), .val (.int .i64 0)]) 4 1 [(0, t29)]) fun t30 =>
      aAppend 52 4 48 s3 t30 σ (subK fun t31 σ_1 =>
      Do (aBin Go.Proofs.Try.prog .add 3 s5 (.val (.int .i64 1))) fun t19 =>
    go [t31, s4, t19] σ_1))
      (Do (aBin Go.Proofs.Try.prog .add 3 s5 (.val (.int .i64 1))) fun t19_1 =>
    go [s3, s4, t19_1] σ))
      (Q (.ret s3) σ))
    [(.val (.slice none 0 0)), t8, (.val (.int .i64 0))] σ
theorem law11_fit.eq (a0 : AV) (σ : Store) (Q : AEnd → Store → Prop) : vc (semOf Go.Proofs.Try.prog law11_fit.mark) Go.Proofs.Try.f25.ntmps law11_fit.ann (bodyOf Go.Proofs.Try.f25) (endK [.tmp 2] Q) (argFr [a0]) σ = law11_fit.sh a0 σ Q := by kernel_rfl
theorem law11_fit.go {a0 : AV} {σ : Store} {Q : AEnd → Store → Prop} (h : law11_fit.sh a0 σ Q) : ACalls Go.Proofs.Try.prog 25 [a0] σ Q :=
  acalls_of_eq [.tmp 2] Go.Proofs.Try.func25 (by kernel_rfl) (by kernel_rfl) (by kernel_rfl) (by kernel_rfl) (law11_fit.eq a0 σ Q) h
theorem few11_ok (l : List En) (m : SM) (k : Nat) (hl : l.length ≤ 100000000000000) (hk : k ≤ 1000) : aPure Go.Proofs.Try.prog 12 [.lst 4 (l.map En.av) m, I .i64 (k : Nat)] (.lst 4 (((l.take k).map (cutE 130 1030)).map En.av) .ro) := by
  refine ACalls.fin (law11_few.go ?_)
  unfold law11_few.sh
  repeat' (first | with_reducible apply Stp.go | with_reducible refine imp fun _ => ?_ | (with_reducible refine hyp ?_ ?_; first | assumption | exact leftT_mem (by assumption)) | (with_reducible refine need ?_ ?_; first | trivial | omega | exact ⟨by assumption, by omega⟩ | (simp only [List.length_append, List.length_cons, List.length_nil, List.length_map, List.length_take, List.length_drop, List.length_replicate, List.length_set]; omega)) | (with_reducible refine fact ?_ ?_; first | trivial | exact ⟨rfl, rfl⟩ | kernel_rfl) | with_reducible refine choT (by assumption) ?_ | with_reducible refine choF (by assumption) ?_ | with_reducible refine choF' (by assumption) ?_ | (with_reducible refine altT ?_ ?_; first | omega | (simp only [List.length_append, List.length_cons, List.length_nil, List.length_map, List.length_take, List.length_drop, List.length_replicate, List.length_set]; omega)) | with_reducible refine altF ?_ | with_reducible refine all fun _ => ?_ | with_reducible refine both ?_ ?_ | (with_reducible refine choT ?_ ?_; omega) | (with_reducible refine choF ?_ ?_; omega) | with_reducible refine cho (fun _ => ?_) (fun _ => ?_))
  refine loopI (β := Nat × Value) (fun x => x.1 ≤ l.length ∧ x.1 ≤ k) (fun x => [.lst 4 (l.map En.av) m, I .i64 (k : Nat), .own x.2 x.1, I .i64 (x.1 : Nat)]) (fun x => [.row x.2 52 4 (((l.take x.1).map (cutE 130 1030)).map En.av) 0]) (fun x => k - x.1) (0, _) ⟨Nat.zero_le _, Nat.zero_le _⟩ (Sub.nil_own 52 (by decide) _ [_, _] [_]) ?_
  rintro ⟨i, v⟩ ⟨h1, h2⟩
  dsimp only at h1 h2 ⊢
  repeat' (first | with_reducible apply Stp.go | with_reducible refine imp fun _ => ?_ | (with_reducible refine hyp ?_ ?_; first | assumption | exact leftT_mem (by assumption)) | (with_reducible refine need ?_ ?_; first | trivial | omega | exact ⟨by assumption, by omega⟩ | (simp only [List.length_append, List.length_cons, List.length_nil, List.length_map, List.length_take, List.length_drop, List.length_replicate, List.length_set]; omega)) | (with_reducible refine fact ?_ ?_; first | trivial | exact ⟨rfl, rfl⟩ | kernel_rfl) | with_reducible refine choT (by assumption) ?_ | with_reducible refine choF (by assumption) ?_ | with_reducible refine choF' (by assumption) ?_ | (with_reducible refine altT ?_ ?_; first | omega | (simp only [List.length_append, List.length_cons, List.length_nil, List.length_map, List.length_take, List.length_drop, List.length_replicate, List.length_set]; omega)) | with_reducible refine altF ?_ | with_reducible refine all fun _ => ?_ | with_reducible refine both ?_ ?_ | (with_reducible refine choT ?_ ?_; omega) | (with_reducible refine choF ?_ ?_; omega) | with_reducible refine cho (fun _ => ?_) (fun _ => ?_))
  · rename_i w
    refine again (i + 1, w) (by dsimp only; omega) ⟨by dsimp only; omega, by dsimp only; omega⟩ ?_
    have e : (l.take (i + 1)).map (cutE 130 1030) = (l.take i).map (cutE 130 1030) ++ [cutE 130 1030 (l.getD i default)] := by rw [take_succ_d (by omega), List.map_append]; rfl
    have en : ((l.take i).map (cutE 130 1030)).length = i := by simp; omega
    dsimp only
    rw [e, List.length_append, en, take_minN, take_minN]
    exact Sub.drop_ (List.sublist_cons_self _ _) _
  · have e : i = min l.length k := by omega
    refine ⟨_, _, _, rfl, retOwn (Sub.refl _ _), ?_, rfl⟩
    rw [e, take_minN]
  · have e : i = min l.length k := by omega
    refine ⟨_, _, _, rfl, retOwn (Sub.refl _ _), ?_, rfl⟩
    rw [e, take_minN]
instance {a : AV} {l : List En} {m : SM} {k : Nat} {x : Int} [h : IsL a En.av 4 l m] [hk : NatOf x k] : PC Go.Proofs.Try.prog 12 [a, .val (.int .i64 x)] (l.length ≤ 100000000000000 ∧ k ≤ 1000) (.lst 4 (((l.take k).map (cutE 130 1030)).map En.av) .ro) := ⟨fun hl => by rw [hk.eq]; exact ⟨[.lst 4 (l.map En.av) m, I .i64 (k : Nat)], ⟨h.sub, SubVs.refl _⟩, few11_ok l m k hl.1 hl.2⟩⟩
theorem fit11_ok (l : List En) (m : SM) (hl : l.length ≤ 100000000000000) : aPure Go.Proofs.Try.prog 25 [.lst 4 (l.map En.av) m] (.lst 4 ((fitL ((l.take 70).map (cutE 130 1030))).map En.av) .ro) := by
  refine ACalls.fin (law11_fit.go ?_)
  unfold law11_fit.sh
  obtain ⟨L, hL⟩ : ∃ L, L = (l.take 70).map (cutE 130 1030) := ⟨_, rfl⟩
  have h70 : L.length ≤ 70 := by rw [hL]; simp; omega
  have hf := foldE_length L
  repeat' (first | with_reducible apply Stp.go | with_reducible refine imp fun _ => ?_ | (with_reducible refine hyp ?_ ?_; first | assumption | exact leftT_mem (by assumption)) | (with_reducible refine need ?_ ?_; first | trivial | omega | exact ⟨by assumption, by omega⟩ | (simp only [List.length_append, List.length_cons, List.length_nil, List.length_map, List.length_take, List.length_drop, List.length_replicate, List.length_set]; omega)) | (with_reducible refine fact ?_ ?_; first | trivial | exact ⟨rfl, rfl⟩ | kernel_rfl) | with_reducible refine choT (by assumption) ?_ | with_reducible refine choF (by assumption) ?_ | with_reducible refine choF' (by assumption) ?_ | (with_reducible refine altT ?_ ?_; first | omega | (simp only [List.length_append, List.length_cons, List.length_nil, List.length_map, List.length_take, List.length_drop, List.length_replicate, List.length_set]; omega)) | with_reducible refine altF ?_ | with_reducible refine all fun _ => ?_ | with_reducible refine both ?_ ?_ | (with_reducible refine choT ?_ ?_; omega) | (with_reducible refine choF ?_ ?_; omega) | with_reducible refine cho (fun _ => ?_) (fun _ => ?_))
  rw [← hL] at *
  unfold fitL
  generalize foldE L = F at *
  refine loopI (β := Nat × Value) (fun x => x.1 ≤ F.length ∧ ((F.take x.1).filter right).length ≤ 64) (fun x => [.own x.2 ((F.take x.1).filter right).length, .lst 4 (F.map En.av) .ro, I .i64 (x.1 : Nat)]) (fun x => [.row x.2 52 4 (((F.take x.1).filter right).map En.av) 0]) (fun x => F.length - x.1) (0, .slice none 0 0) ⟨Nat.zero_le _, by simp⟩ (Sub.nil_own 52 (by decide) _ [] [_, _]) ?_
  rintro ⟨i, v⟩ ⟨hi, h64⟩
  dsimp only at hi h64 ⊢
  have hfin : (i = F.length ∨ ((F.take i).filter right).length = 64) → (F.filter right).take 64 = (F.take i).filter right := by
    intro h
    have hs : F.filter right = (F.take i).filter right ++ (F.drop i).filter right := by rw [← List.filter_append, List.take_append_drop]
    rw [hs]
    rcases h with h | h
    · rw [h, List.drop_length, List.filter_nil, List.append_nil, List.take_of_length_le (by rw [← h]; exact h64)]
    · rw [List.take_append_of_le_length (by omega), List.take_of_length_le (by omega)]
  by_cases hlt : i < F.length
  · have hs : (F.take (i + 1)).filter right = (F.take i).filter right ++ (if right (F.getD i default) = true then [F.getD i default] else []) := by
      rw [take_succ_d hlt, List.filter_append]
      generalize F.getD i default = y
      by_cases hy : right y = true <;> simp [hy]
    by_cases hc : ((F.take i).filter right).length < 64
    · repeat' (first | with_reducible apply Stp.go | with_reducible refine imp fun _ => ?_ | (with_reducible refine hyp ?_ ?_; first | assumption | exact leftT_mem (by assumption)) | (with_reducible refine need ?_ ?_; first | trivial | omega | exact ⟨by assumption, by omega⟩ | (simp only [List.length_append, List.length_cons, List.length_nil, List.length_map, List.length_take, List.length_drop, List.length_replicate, List.length_set]; omega)) | (with_reducible refine fact ?_ ?_; first | trivial | exact ⟨rfl, rfl⟩ | kernel_rfl) | with_reducible refine choT (by assumption) ?_ | with_reducible refine choF (by assumption) ?_ | with_reducible refine choF' (by assumption) ?_ | (with_reducible refine altT ?_ ?_; first | omega | (simp only [List.length_append, List.length_cons, List.length_nil, List.length_map, List.length_take, List.length_drop, List.length_replicate, List.length_set]; omega)) | with_reducible refine altF ?_ | with_reducible refine all fun _ => ?_ | with_reducible refine both ?_ ?_ | (with_reducible refine choT ?_ ?_; omega) | (with_reducible refine choF ?_ ?_; omega) | with_reducible refine cho (fun _ => ?_) (fun _ => ?_))
      · rename_i hr w
        rw [if_pos hr] at hs
        refine again (i + 1, w) (by dsimp only; omega) ⟨by dsimp only; omega, ?_⟩ ?_
        · dsimp only
          rw [hs, List.length_append]
          simp only [List.length_cons, List.length_nil]
          omega
        · dsimp only
          rw [hs]
          exact Sub.refl _ _
      · rename_i hr
        rw [if_neg hr, List.append_nil] at hs
        refine again (i + 1, v) (by dsimp only; omega) ⟨by dsimp only; omega, ?_⟩ ?_
        · dsimp only
          rw [hs]
          exact h64
        · dsimp only
          rw [hs]
          exact Sub.refl _ _
    · rw [hfin (.inr (by omega))]
      repeat' (first | with_reducible apply Stp.go | with_reducible refine imp fun _ => ?_ | (with_reducible refine hyp ?_ ?_; first | assumption | exact leftT_mem (by assumption)) | (with_reducible refine need ?_ ?_; first | trivial | omega | exact ⟨by assumption, by omega⟩ | (simp only [List.length_append, List.length_cons, List.length_nil, List.length_map, List.length_take, List.length_drop, List.length_replicate, List.length_set]; omega)) | (with_reducible refine fact ?_ ?_; first | trivial | exact ⟨rfl, rfl⟩ | kernel_rfl) | with_reducible refine choT (by assumption) ?_ | with_reducible refine choF (by assumption) ?_ | with_reducible refine choF' (by assumption) ?_ | (with_reducible refine altT ?_ ?_; first | omega | (simp only [List.length_append, List.length_cons, List.length_nil, List.length_map, List.length_take, List.length_drop, List.length_replicate, List.length_set]; omega)) | with_reducible refine altF ?_ | with_reducible refine all fun _ => ?_ | with_reducible refine both ?_ ?_ | (with_reducible refine choT ?_ ?_; omega) | (with_reducible refine choF ?_ ?_; omega) | with_reducible refine cho (fun _ => ?_) (fun _ => ?_))
      exact ⟨_, _, _, rfl, retOwn (Sub.refl _ _), rfl, rfl⟩
  · rw [hfin (.inl (by omega))]
    repeat' (first | with_reducible apply Stp.go | with_reducible refine imp fun _ => ?_ | (with_reducible refine hyp ?_ ?_; first | assumption | exact leftT_mem (by assumption)) | (with_reducible refine need ?_ ?_; first | trivial | omega | exact ⟨by assumption, by omega⟩ | (simp only [List.length_append, List.length_cons, List.length_nil, List.length_map, List.length_take, List.length_drop, List.length_replicate, List.length_set]; omega)) | (with_reducible refine fact ?_ ?_; first | trivial | exact ⟨rfl, rfl⟩ | kernel_rfl) | with_reducible refine choT (by assumption) ?_ | with_reducible refine choF (by assumption) ?_ | with_reducible refine choF' (by assumption) ?_ | (with_reducible refine altT ?_ ?_; first | omega | (simp only [List.length_append, List.length_cons, List.length_nil, List.length_map, List.length_take, List.length_drop, List.length_replicate, List.length_set]; omega)) | with_reducible refine altF ?_ | with_reducible refine all fun _ => ?_ | with_reducible refine both ?_ ?_ | (with_reducible refine choT ?_ ?_; omega) | (with_reducible refine choF ?_ ?_; omega) | with_reducible refine cho (fun _ => ?_) (fun _ => ?_))
    exact ⟨_, _, _, rfl, retOwn (Sub.refl _ _), rfl, rfl⟩
end Go.Ab

/- Reading numbers and texts. -/
set_option linter.unusedVariables false
set_option linter.unusedSimpArgs false
namespace Go.Ab
def codec_Get.mark : Mark := ⟨fun t => false, fun t => false, fun t => false, fun t => Nat.beq t 18, fun t => false⟩
def codec_Get.ann : Ann := ⟨fun n => bif Nat.beq n 3 then [5, 12, 13, 14] else [], fun n => none, fun n => none⟩
def ref01_Get.mark : Mark := ⟨fun t => false, fun t => false, fun t => false, fun t => false, fun t => false⟩
def ref01_Get.ann : Ann := ⟨fun n => bif Nat.beq n 3 then [0, 5, 6] else [], fun n => none, fun n => none⟩
def codec_Text.mark : Mark := ⟨fun t => Nat.beq t 11, fun t => false, fun t => false, fun t => false, fun t => false⟩
def codec_Text.ann : Ann := ⟨fun n => [], fun n => none, fun n => none⟩
def ref01_Text.mark : Mark := ⟨fun t => Nat.beq t 10, fun t => false, fun t => false, fun t => false, fun t => false⟩
def ref01_Text.ann : Ann := ⟨fun n => [], fun n => none, fun n => none⟩
end Go.Ab

/- Reading an entry. -/
set_option linter.unusedVariables false
set_option linter.unusedSimpArgs false
namespace Go.Ab
def entry_reader_number.mark : Mark := ⟨fun t => Nat.beq t 16, fun t => false, fun t => false, fun t => false, fun t => false⟩
def entry_reader_number.ann : Ann := ⟨fun n => [], fun n => none, fun n => none⟩
def entry_reader_text.mark : Mark := ⟨fun t => Nat.beq t 16, fun t => false, fun t => false, fun t => false, fun t => false⟩
def entry_reader_text.ann : Ann := ⟨fun n => [], fun n => none, fun n => none⟩
def entry_Parse.mark : Mark := ⟨fun t => Nat.beq t 45, fun t => false, fun t => false, fun t => Nat.beq t 14 || Nat.beq t 27, fun t => false⟩
def entry_Parse.ann : Ann := ⟨fun n => [], fun n => bif Nat.beq n 8 then some [2, 5, 7] else none, fun n => bif Nat.beq n 5 then some [2, 5, 7] else bif Nat.beq n 10 then some [2, 3, 4] else none⟩
end Go.Ab

/- Layer 11: what is shown in any case; TableLevels, TableKnown. -/
set_option linter.unusedVariables false
set_option linter.unusedSimpArgs false
namespace Go.Ab
section tabld
variable {b : Nat} {t : TypeId} {lev n : Int} {d f g : List UInt8} {σ rest : Store} {put : Ent → Store} {k : AV → Store → Prop} {K : AV → Prop}
theorem tab_drop [hc : Len32 d] : (tabCs lev n d f g).drop 34 = [S f, S g] := by
  show (d.map byt ++ [S f, S g]).drop 32 = _
  rw [List.drop_left' (by simp [hc.len])]
theorem tab_drop1 [hc : Len32 d] : (tabCs lev n d f g).drop 35 = [S g] := by
  rw [show (35 : Nat) = 34 + 1 from rfl, ← List.drop_drop, tab_drop]; rfl
instance (priority := 75) ldT34 [hc : Len32 d] [hv : VarAt b σ t (tabCs lev n d f g) put rest] : Stp (Do (loadA false 1 (ptrAt b 34) σ) K) (K (S f)) := ⟨fun hK => by
  obtain ⟨σ1, σ2, e, _⟩ := hv.at_
  exact ⟨_, ⟨by decide, fun _ => rfl, rfl, t, _, by rw [e]; exact List.mem_append.2 (.inr (List.mem_cons_self ..)), by rw [tabCs_len]; show 34 + 1 ≤ 36; omega, by show _ = mkV false (((tabCs lev n d f g).drop 34).take 1); rw [tab_drop]; rfl⟩, hK⟩⟩
instance (priority := 75) ldT35 [hc : Len32 d] [hv : VarAt b σ t (tabCs lev n d f g) put rest] : Stp (Do (loadA false 1 (ptrAt b 35) σ) K) (K (S g)) := ⟨fun hK => by
  obtain ⟨σ1, σ2, e, _⟩ := hv.at_
  exact ⟨_, ⟨by decide, fun _ => rfl, rfl, t, _, by rw [e]; exact List.mem_append.2 (.inr (List.mem_cons_self ..)), by rw [tabCs_len]; show 35 + 1 ≤ 36; omega, by show _ = mkV false (((tabCs lev n d f g).drop 35).take 1); rw [tab_drop1]; rfl⟩, hK⟩⟩
end tabld
/-! what is known of a table -/
section told
variable {a : AV} {m : SM} {b : Int} {l : List En} {lev : Int}
end told
end Go.Ab

/- Layer 11: what is shown in any case; TableLevels, TableKnown. -/
set_option linter.unusedVariables false
set_option linter.unusedSimpArgs false
namespace Go.Ab
section told
variable {a : AV} {m : SM} {b : Int} {l : List En} {x : Int}
theorem desc11 [h : IsL a En.av 4 l m] {lev : Nat} (hx : x = (lev : Nat)) (hf : fit l = true) (hv : lev < 4) : PC Go.Proofs.Try.prog 15 [trA b, .val (.int .i64 x), a] True (.tuple [tabA x (l.length : Nat) (rootD b (l.map enB)) (l.getD 0 default).key (l.getD (l.length - 1) default).key, .val (.int .i64 0)]) := ⟨fun _ => by
  subst hx
  have h64 := (fit_right hf).1
  have hd : dFit lev l = true := by unfold dFit; rw [hf, decide_eq_true hv]; rfl
  have := (inferInstance : PC Go.Proofs.Try.prog 15 [trA b, .val (.int .i64 ((lev : Nat) : Int)), a] _ _).ct ⟨by omega, by omega⟩
  unfold dLev dCnt dRoot dFst dLst dErr at this
  simp only [if_pos hd] at this
  exact this⟩
end told
def law11_shown.mark : Mark := ⟨fun t => Nat.beq t 10 || Nat.beq t 16 || Nat.beq t 64 || Nat.beq t 67, fun t => false, fun t => false, fun t => false, fun t => false⟩
def law11_shown.ann : Ann := ⟨fun n => [], fun n => none, fun n => none⟩
/-- 'marlstone/marlstonelaw11.shown' -/
def law11_shown.sh (σ : Store) (Q : AEnd → Store → Prop) : Prop :=
  Do (aLit [.val (.string ⟨#[]⟩), .val (.string ⟨#[]⟩), .val (.bool false), .val (.int .i64 0)] [(0, 1), (1, 1), (2, 1), (3, 1)] [(0, (.val (.string ⟨#[97]⟩))), (1, (.val (.string ⟨#[118]⟩))), (3, (.val (.int .i64 1)))]) fun t6 =>
  Do (aSlLit (mkE [.val (.string ⟨#[]⟩), .val (.string ⟨#[]⟩), .val (.bool false), .val (.int .i64 0)]) 4 1 [(0, t6)]) fun t7 =>
  Do (aPureC Go.Proofs.Try.prog 13 [t7]) fun t10 =>
  Do (aExt t10 0) fun t11 =>
  Do (aExt t10 1) fun t12 =>
  Do (aLit [.val (.int .i64 0)] [(0, 1)] [(0, (.val (.int .i64 256)))]) fun t14 =>
  Do (aPureC Go.Proofs.Try.prog 15 [t14, (.val (.int .i64 2)), t7]) fun t16 =>
  Do (aExt t16 0) fun t17 =>
  Do (aExt t16 1) fun t18 =>
  aNewVar 34 [.val (.int .i64 0), .val (.int .i64 0), .val (.int .u8 0), .val (.int .u8 0), .val (.int .u8 0), .val (.int .u8 0), .val (.int .u8 0), .val (.int .u8 0), .val (.int .u8 0), .val (.int .u8 0), .val (.int .u8 0), .val (.int .u8 0), .val (.int .u8 0), .val (.int .u8 0), .val (.int .u8 0), .val (.int .u8 0), .val (.int .u8 0), .val (.int .u8 0), .val (.int .u8 0), .val (.int .u8 0), .val (.int .u8 0), .val (.int .u8 0), .val (.int .u8 0), .val (.int .u8 0), .val (.int .u8 0), .val (.int .u8 0), .val (.int .u8 0), .val (.int .u8 0), .val (.int .u8 0), .val (.int .u8 0), .val (.int .u8 0), .val (.int .u8 0), .val (.int .u8 0), .val (.int .u8 0), .val (.string ⟨#[]⟩), .val (.string ⟨#[]⟩)] σ fun t4 σ =>
  storeA 36 t4 t17 σ fun u σ_1 =>
  Do (aBuiltin Go.Proofs.Try.prog .len #[25] [t11]) fun t20 =>
  Do (aBin Go.Proofs.Try.prog .eql 3 t20 (.val (.int .i64 30))) fun t21 =>
  Do (aGuard t21 true (aIs t12)) fun t23 =>
  Do (aGuard t21 true (aBin Go.Proofs.Try.prog .eql 26 t23 (.val (.int .i64 0)))) fun t24 =>
  Do (aPick t21 t24 (.val (.bool false))) fun t25 =>
  Do (aGuard t25 true (aIs t11)) fun t27 =>
  Do (aGuard t25 true (aSlice .slice 1 t27 none (some (.val (.int .i64 4))) none)) fun t28 =>
  Do (aGuard t25 true (aConvBS t28)) fun t29 =>
  Do (aGuard t25 true (aBin Go.Proofs.Try.prog .eql 9 t29 (.val (.string ⟨#[77, 65, 82, 76]⟩)))) fun t30 =>
  Do (aPick t25 t30 (.val (.bool false))) fun t31 =>
  Do (aGuard t31 true (aIs t11)) fun t33 =>
  Do (aGuard t31 true (aSlice .slice 1 t33 (some (.val (.int .i64 19))) none none)) fun t34 =>
  Do (aGuard t31 true (aConvBS t34)) fun t35 =>
  Do (aGuard t31 true (aBin Go.Proofs.Try.prog .eql 9 t35 (.val (.string ⟨#[1, 97, 15, 0, 0, 0, 1, 0, 0, 0, 19]⟩)))) fun t36 =>
  Do (aPick t31 t36 (.val (.bool false))) fun t37 =>
  Do (aGuard t37 true (aFieldAddr 0 1 t4)) fun t39 =>
  Do (aGuard t37 true (loadA false 1 t39 σ_1)) fun t40 =>
  Do (aGuard t37 true (aBin Go.Proofs.Try.prog .eql 3 t40 (.val (.int .i64 2)))) fun t41 =>
  Do (aPick t37 t41 (.val (.bool false))) fun t42 =>
  Do (aGuard t42 true (aFieldAddr 1 1 t4)) fun t44 =>
  Do (aGuard t42 true (loadA false 1 t44 σ_1)) fun t45 =>
  Do (aGuard t42 true (aBin Go.Proofs.Try.prog .eql 3 t45 (.val (.int .i64 1)))) fun t46 =>
  Do (aPick t42 t46 (.val (.bool false))) fun t47 =>
  Do (aGuard t47 true (aFieldAddr 34 1 t4)) fun t49 =>
  Do (aGuard t47 true (loadA false 1 t49 σ_1)) fun t50 =>
  Do (aGuard t47 true (aBin Go.Proofs.Try.prog .eql 9 t50 (.val (.string ⟨#[97]⟩)))) fun t51 =>
  Do (aPick t47 t51 (.val (.bool false))) fun t52 =>
  Do (aGuard t52 true (aFieldAddr 35 1 t4)) fun t54 =>
  Do (aGuard t52 true (loadA false 1 t54 σ_1)) fun t55 =>
  Do (aGuard t52 true (aBin Go.Proofs.Try.prog .eql 9 t55 (.val (.string ⟨#[97]⟩)))) fun t56 =>
  Do (aPick t52 t56 (.val (.bool false))) fun t57 =>
  Do (aGuard t57 true (aIs t18)) fun t59 =>
  Do (aGuard t57 true (aBin Go.Proofs.Try.prog .eql 26 t59 (.val (.int .i64 0)))) fun t60 =>
  Do (aPick t57 t60 (.val (.bool false))) fun t61 =>
  Do (aGuard t61 true (aIs t7)) fun t63 =>
  Do (aGuard t61 true (aPureC Go.Proofs.Try.prog 20 [t63])) fun t64 =>
  Do (aPick t61 t64 (.val (.bool false))) fun t65 =>
  Do (aGuard t65 true (aPureC Go.Proofs.Try.prog 20 [(.val (.slice none 0 0))])) fun t67 =>
  Do (aGuard t65 true (aUn Go.Proofs.Try.prog .not t67)) fun t68 =>
  Do (aPick t65 t68 (.val (.bool false))) fun t69 =>
  Q (.ret t69) σ_1
theorem law11_shown.eq (σ : Store) (Q : AEnd → Store → Prop) : vc (semOf Go.Proofs.Try.prog law11_shown.mark) Go.Proofs.Try.f11.ntmps law11_shown.ann (bodyOf Go.Proofs.Try.f11) (endK [.tmp 0] Q) (argFr []) σ = law11_shown.sh  σ Q := by kernel_rfl
theorem law11_shown.go {σ : Store} {Q : AEnd → Store → Prop} (h : law11_shown.sh  σ Q) : ACalls Go.Proofs.Try.prog 11 [] σ Q :=
  acalls_of_eq [.tmp 0] Go.Proofs.Try.func11 (by kernel_rfl) (by kernel_rfl) (by kernel_rfl) (by kernel_rfl) (law11_shown.eq  σ Q) h
theorem shown11_ok : aPure Go.Proofs.Try.prog 11 [] (B true) := by
  refine ACalls.fin (law11_shown.go ?_)
  unfold law11_shown.sh
  have e1 : fit [⟨[97], [118], false, 1⟩] = true := by decide
  have e0 : fit [] = false := by decide
  have ec : chunksE [⟨[97], [118], false, 1⟩] = [[⟨[97], [118], false, 1⟩]] := by decide
  have eb : blkB [⟨[97], [118], false, 1⟩] = [0, 1, 97, 0, 1, 1, 118, 0, 0, 0, 0, 0, 0, 0, 1] := by
    simp [blkB, e1, blockBytes, blk, encE, sharedAt, common, fixed, put_small]
  have e2 : tbB [⟨[97], [118], false, 1⟩] = [77, 65, 82, 76, 0, 1, 97, 0, 1, 1, 118, 0, 0, 0, 0, 0, 0, 0, 1, 1, 97, 15, 0, 0, 0, 1, 0, 0, 0, 19] := by
    simp [tbB, e1, ec, partsB, headB, blocksB, indexB, idxE, eb, lettersB, fixed, put_small]
  have e3 : tbE [⟨[97], [118], false, 1⟩] = 0 := by simp [tbE, e1]
  have iD : ∀ {a : AV} {m : SM} [h : IsL a En.av 4 [⟨[97], [118], false, 1⟩] m], PC Go.Proofs.Try.prog 15 [trA 256, .val (.int .i64 2), a] True _ := desc11 (b := 256) (lev := 2) rfl e1 (by decide)
  have iB : ∀ {a : AV} {m : SM} [h : IsL a En.av 4 [⟨[97], [118], false, 1⟩] m], PC Go.Proofs.Try.prog 13 [a] True (.tuple [.lst 1 (([77, 65, 82, 76, 0, 1, 97, 0, 1, 1, 118, 0, 0, 0, 0, 0, 0, 0, 1, 1, 97, 15, 0, 0, 0, 1, 0, 0, 0, 19] : List UInt8).map byt) .ro, .val (.int .i64 0)]) := fun {a m h} => ⟨fun _ => by
    have := (inferInstance : PC Go.Proofs.Try.prog 13 [a] _ _).ct (show ([⟨[97], [118], false, 1⟩] : List En).length ≤ 1000000000 by decide)
    rw [e2, e3] at this
    exact this⟩
  repeat' (first | with_reducible apply Stp.go | with_reducible refine imp fun _ => ?_ | (with_reducible refine hyp ?_ ?_; first | assumption | exact leftT_mem (by assumption)) | (with_reducible refine need ?_ ?_; first | trivial | omega | exact ⟨by assumption, by omega⟩ | (simp only [List.length_append, List.length_cons, List.length_nil, List.length_map, List.length_take, List.length_drop, List.length_replicate, List.length_set]; omega)) | (with_reducible refine fact ?_ ?_; first | trivial | exact ⟨rfl, rfl⟩ | kernel_rfl) | with_reducible refine choT (by assumption) ?_ | with_reducible refine choF (by assumption) ?_ | with_reducible refine choF' (by assumption) ?_ | (with_reducible refine altT ?_ ?_; first | omega | (simp only [List.length_append, List.length_cons, List.length_nil, List.length_map, List.length_take, List.length_drop, List.length_replicate, List.length_set]; omega)) | with_reducible refine altF ?_ | with_reducible refine all fun _ => ?_ | with_reducible refine both ?_ ?_ | (with_reducible refine choT ?_ ?_; omega) | (with_reducible refine choF ?_ ?_; omega) | with_reducible refine cho (fun _ => ?_) (fun _ => ?_))
  all_goals first
    | exact ⟨_, _, _, rfl, Sub.app_nil _, rfl, rfl⟩
    | contradiction
    | (exfalso; rename_i h; exact h rfl)
    | (exfalso; rename_i h; exact h (by decide))
    | trace_state
instance shown11I : PC Go.Proofs.Try.prog 11 [] True (B true) := ⟨fun _ => PC.of shown11_ok⟩
end Go.Ab

/- Layer 11: TableBlocks. -/
set_option linter.unusedVariables false
set_option linter.unusedSimpArgs false
namespace Go.Ab
/-- The part of a list by its number. -/
def partE (L : List En) (q : Nat) : List En := (L.drop (16 * q)).take 16
theorem chunks_at (L : List En) (q : Nat) (h : 16 * q < L.length) : (chunksE L).drop q = partE L q :: (chunksE L).drop (q + 1) := by
  have hq : q < (chunksE L).length := by simp only [chunksE, List.length_map, List.length_range]; omega
  rw [List.drop_eq_getElem_cons hq]
  congr 1
  simp only [chunksE, List.getElem_map, List.getElem_range, partE]
theorem chunks_len (L : List En) : (chunksE L).length = (L.length + 15) / 16 := by simp [chunksE]
theorem headB_app (ps qs : List (List En)) : headB (ps ++ qs) = headB ps ++ blocksB qs := by simp [headB, blocksB]
theorem chunk_cut {L : List En} (hf : fit L = true) (q : Nat) (h : 16 * q < L.length) : ∃ R : List UInt8, 8 ≤ R.length ∧ tbB L = headB ((chunksE L).take q) ++ blkB (partE L q) ++ R ∧ headB ((chunksE L).take (q + 1)) = headB ((chunksE L).take q) ++ blkB (partE L q) := by
  have hd := chunks_at L q h
  have hq : q < (chunksE L).length := by rw [chunks_len]; omega
  have e1 : headB (chunksE L) = headB ((chunksE L).take q) ++ blkB (partE L q) ++ blocksB ((chunksE L).drop (q + 1)) := by
    conv => lhs; rw [← List.take_append_drop q (chunksE L), headB_app, hd]
    simp [blocksB]
  refine ⟨blocksB ((chunksE L).drop (q + 1)) ++ (indexB (chunksE L) ++ (fixed (chunksE L).length ++ fixed (headB (chunksE L)).length)), ?_, ?_, ?_⟩
  · simp only [List.length_append, fixed, List.length_cons, List.length_nil]; omega
  · unfold tbB partsB
    rw [if_pos hf, e1]
    simp only [List.append_assoc]
  · have : (chunksE L).take (q + 1) = (chunksE L).take q ++ [partE L q] := by
      rw [List.take_add_one, List.getElem?_eq_getElem hq]
      have h2 := List.drop_eq_getElem_cons hq
      rw [hd] at h2
      injection h2 with h3 h4
      rw [← h3]; rfl
    rw [this, headB_snoc]
theorem chunks_part {L p : List En} (h : p ∈ chunksE L) : PartOf L p := by
  simp only [chunksE, List.mem_map, List.mem_range] at h
  obtain ⟨q, hq, rfl⟩ := h
  exact ⟨16 * q, by omega, rfl⟩
theorem tbB_len (L : List En) : (tbB L).length ≤ 1000000 := by
  unfold tbB
  split
  · rename_i hf
    have h64 := (fit_right hf).1
    have hc := chunks_len L
    have hps : ∀ q ∈ chunksE L, q.length ≤ 16 ∧ (q.getD 0 default).key.length ≤ 128 := fun q hq => by
      obtain ⟨h1, h2, h3⟩ := fit_part hf (chunks_part hq)
      exact ⟨h3, (right_bounds ((fit_right h1).2.2.2 0 h2)).2.1⟩
    have hi := indexB_le hps
    have hh := headB_le (fun q hq => (hps q hq).1)
    unfold partsB
    simp only [List.length_append, fixed, List.length_cons, List.length_nil]
    omega
  · simp
def law11_TableBlocks.mark : Mark := ⟨fun t => Nat.beq t 10 || Nat.beq t 12 || Nat.beq t 19 || Nat.beq t 37, fun t => false, fun t => false, fun t => false, fun t => false⟩
def law11_TableBlocks.ann : Ann := ⟨fun n => bif Nat.beq n 8 then [0, 3, 4, 6, 7] else [], fun n => none, fun n => none⟩
/-- 'marlstone/marlstonelaw11.TableBlocks' -/
def law11_TableBlocks.sh (a0 : AV) (σ : Store) (Q : AEnd → Store → Prop) : Prop :=
  Do (aPureC Go.Proofs.Try.prog 11 []) fun t10 =>
  Do (aPureC Go.Proofs.Try.prog 25 [a0]) fun t12 =>
  Do (aBuiltin Go.Proofs.Try.prog .len #[22] [t12]) fun t14 =>
  Do (aBin Go.Proofs.Try.prog .eql 3 t14 (.val (.int .i64 0))) fun t15 =>
  aCond t15
    (Q (.ret t10) σ)
    (Do (aPureC Go.Proofs.Try.prog 13 [t12]) fun t19 =>
  Do (aExt t19 0) fun t20 =>
  Do (aExt t19 1) fun t21 =>
  aLoop (fun go vs σ =>
    At vs 0 fun s0 => At vs 1 fun s3 => At vs 2 fun s4 => At vs 3 fun s6 => At vs 4 fun s7 => Do (aBuiltin Go.Proofs.Try.prog .len #[22] [s0]) fun t24 =>
    Do (aBin Go.Proofs.Try.prog .lss 3 s7 t24) fun t25 =>
    aCond t25
      (Do (aBuiltin Go.Proofs.Try.prog .len #[22] [s0]) fun t32 =>
    Do (aBin Go.Proofs.Try.prog .add 3 s7 (.val (.int .i64 16))) fun t34 =>
    Do (aBuiltin Go.Proofs.Try.prog .min #[3, 3] [t32, t34]) fun t35 =>
    Do (aSlice .slice 4 s0 (some s7) (some t35) none) fun t36 =>
    Do (aPureC Go.Proofs.Try.prog 26 [t36]) fun t37 =>
    Do (aExt t37 0) fun t38 =>
    Do (aExt t37 1) fun t39 =>
    Do (aBin Go.Proofs.Try.prog .neq 26 t39 (.val (.int .i64 0))) fun t41 =>
    Do (aGuard t41 false (aIs s4)) fun t43 =>
    Do (aGuard t41 false (aBuiltin Go.Proofs.Try.prog .len #[25] [t43])) fun t44 =>
    Do (aGuard t41 false (aIs s6)) fun t45 =>
    Do (aGuard t41 false (aIs t38)) fun t46 =>
    Do (aGuard t41 false (aBuiltin Go.Proofs.Try.prog .len #[25] [t46])) fun t47 =>
    Do (aGuard t41 false (aBin Go.Proofs.Try.prog .add 3 t45 t47)) fun t48 =>
    Do (aGuard t41 false (aBin Go.Proofs.Try.prog .lss 3 t44 t48)) fun t49 =>
    Do (aPick t41 (.val (.bool true)) t49) fun t50 =>
    Do (aGuard t50 false (aIs s4)) fun t52 =>
    Do (aGuard t50 false (aIs s6)) fun t53 =>
    Do (aGuard t50 false (aIs s6)) fun t54 =>
    Do (aGuard t50 false (aIs t38)) fun t55 =>
    Do (aGuard t50 false (aBuiltin Go.Proofs.Try.prog .len #[25] [t55])) fun t56 =>
    Do (aGuard t50 false (aBin Go.Proofs.Try.prog .add 3 t54 t56)) fun t57 =>
    Do (aGuard t50 false (aSlice .slice 1 t52 (some t53) (some t57) none)) fun t58 =>
    Do (aGuard t50 false (aConvBS t58)) fun t59 =>
    Do (aGuard t50 false (aIs t38)) fun t60 =>
    Do (aGuard t50 false (aConvBS t60)) fun t61 =>
    Do (aGuard t50 false (aBin Go.Proofs.Try.prog .neq 9 t59 t61)) fun t62 =>
    Do (aPick t50 (.val (.bool true)) t62) fun t63 =>
    aCond t63
      (Q (.ret (.val (.bool false))) σ)
      (Do (aBuiltin Go.Proofs.Try.prog .len #[25] [t38]) fun t66 =>
    Do (aBin Go.Proofs.Try.prog .add 3 s6 t66) fun t67 =>
    Do (aBin Go.Proofs.Try.prog .add 3 s7 (.val (.int .i64 16))) fun t27 =>
    go [s0, s3, s4, t67, t27] σ))
      (Do (aGuard s3 true (aIs s4)) fun t70 =>
  Do (aGuard s3 true (aSlice .slice 1 t70 none (some (.val (.int .i64 4))) none)) fun t71 =>
  Do (aGuard s3 true (aConvBS t71)) fun t72 =>
  Do (aGuard s3 true (aBin Go.Proofs.Try.prog .eql 9 t72 (.val (.string ⟨#[77, 65, 82, 76]⟩)))) fun t73 =>
  Do (aPick s3 t73 (.val (.bool false))) fun t74 =>
  Do (aGuard t74 true (aIs s4)) fun t76 =>
  Do (aGuard t74 true (aBuiltin Go.Proofs.Try.prog .len #[25] [t76])) fun t77 =>
  Do (aGuard t74 true (aIs s6)) fun t78 =>
  Do (aGuard t74 true (aBin Go.Proofs.Try.prog .add 3 t78 (.val (.int .i64 8)))) fun t79 =>
  Do (aGuard t74 true (aBin Go.Proofs.Try.prog .geq 3 t77 t79)) fun t80 =>
  Do (aPick t74 t80 (.val (.bool false))) fun t81 =>
  Q (.ret t81) σ))
    [t12, t10, t20, (.val (.int .i64 4)), (.val (.int .i64 0))] σ)
theorem law11_TableBlocks.eq (a0 : AV) (σ : Store) (Q : AEnd → Store → Prop) : vc (semOf Go.Proofs.Try.prog law11_TableBlocks.mark) Go.Proofs.Try.f6.ntmps law11_TableBlocks.ann (bodyOf Go.Proofs.Try.f6) (endK [.tmp 2] Q) (argFr [a0]) σ = law11_TableBlocks.sh a0 σ Q := by kernel_rfl
theorem law11_TableBlocks.go {a0 : AV} {σ : Store} {Q : AEnd → Store → Prop} (h : law11_TableBlocks.sh a0 σ Q) : ACalls Go.Proofs.Try.prog 6 [a0] σ Q :=
  acalls_of_eq [.tmp 2] Go.Proofs.Try.func6 (by kernel_rfl) (by kernel_rfl) (by kernel_rfl) (by kernel_rfl) (law11_TableBlocks.eq a0 σ Q) h
theorem TableBlocks_ok (l : List En) (m : SM) (hl : l.length ≤ 100000000000000) : aPure Go.Proofs.Try.prog 6 [.lst 4 (l.map En.av) m] (B true) := by
  refine ACalls.fin (law11_TableBlocks.go ?_)
  unfold law11_TableBlocks.sh
  obtain ⟨L, hL⟩ : ∃ L, L = fitL ((l.take 70).map (cutE 130 1030)) := ⟨_, rfl⟩
  have h64 : L.length ≤ 64 := by rw [hL]; unfold fitL; simp; omega
  have iF : PC Go.Proofs.Try.prog 25 [.lst 4 (l.map En.av) m] True (.lst 4 (L.map En.av) .ro) := ⟨fun _ => by rw [hL]; exact PC.of (fit11_ok l m hl)⟩
  by_cases h0 : L.length = 0
  · repeat' (first | with_reducible apply Stp.go | with_reducible refine imp fun _ => ?_ | (with_reducible refine hyp ?_ ?_; first | assumption | exact leftT_mem (by assumption)) | (with_reducible refine need ?_ ?_; first | trivial | omega | exact ⟨by assumption, by omega⟩ | (simp only [List.length_append, List.length_cons, List.length_nil, List.length_map, List.length_take, List.length_drop, List.length_replicate, List.length_set]; omega)) | (with_reducible refine fact ?_ ?_; first | trivial | exact ⟨rfl, rfl⟩ | kernel_rfl) | with_reducible refine choT (by assumption) ?_ | with_reducible refine choF (by assumption) ?_ | with_reducible refine choF' (by assumption) ?_ | (with_reducible refine altT ?_ ?_; first | omega | (simp only [List.length_append, List.length_cons, List.length_nil, List.length_map, List.length_take, List.length_drop, List.length_replicate, List.length_set]; omega)) | with_reducible refine altF ?_ | with_reducible refine all fun _ => ?_ | with_reducible refine both ?_ ?_ | (with_reducible refine choT ?_ ?_; omega) | (with_reducible refine choF ?_ ?_; omega) | with_reducible refine cho (fun _ => ?_) (fun _ => ?_))
    exact ⟨_, _, _, rfl, Sub.app_nil _, rfl, rfl⟩
  · have hf : fit L = true := by rw [hL] at h0 ⊢; exact fitL_fit (by omega)
    repeat' (first | with_reducible apply Stp.go | with_reducible refine imp fun _ => ?_ | (with_reducible refine hyp ?_ ?_; first | assumption | exact leftT_mem (by assumption)) | (with_reducible refine need ?_ ?_; first | trivial | omega | exact ⟨by assumption, by omega⟩ | (simp only [List.length_append, List.length_cons, List.length_nil, List.length_map, List.length_take, List.length_drop, List.length_replicate, List.length_set]; omega)) | (with_reducible refine fact ?_ ?_; first | trivial | exact ⟨rfl, rfl⟩ | kernel_rfl) | with_reducible refine choT (by assumption) ?_ | with_reducible refine choF (by assumption) ?_ | with_reducible refine choF' (by assumption) ?_ | (with_reducible refine altT ?_ ?_; first | omega | (simp only [List.length_append, List.length_cons, List.length_nil, List.length_map, List.length_take, List.length_drop, List.length_replicate, List.length_set]; omega)) | with_reducible refine altF ?_ | with_reducible refine all fun _ => ?_ | with_reducible refine both ?_ ?_ | (with_reducible refine choT ?_ ?_; omega) | (with_reducible refine choF ?_ ?_; omega) | with_reducible refine cho (fun _ => ?_) (fun _ => ?_))
    refine loopI (β := Nat) (fun q => q ≤ (chunksE L).length) (fun q => [.lst 4 (L.map En.av) .ro, B true, .lst 1 ((tbB L).map byt) .ro, I .i64 ((headB ((chunksE L).take q)).length : Nat), I .i64 ((16 * q : Nat) : Int)]) (fun _ => []) (fun q => (chunksE L).length - q) 0 (Nat.zero_le _) (Sub.refl _ _) ?_
    intro q hq
    rw [chunks_len] at hq
    by_cases hlt : 16 * q < L.length
    · obtain ⟨R, hR, hT, hN⟩ := chunk_cut hf q hlt
      obtain ⟨hfp, _, _⟩ := fit_part hf (⟨16 * q, hlt, rfl⟩ : PartOf L (partE L q))
      have hb0 := blkB_pos hfp
      have hE : blkE (partE L q) = 0 := by simp [blkE, hfp]
      have hp : (L.take (min L.length (16 * q + 16))).drop (16 * q) = partE L q := by
        unfold partE
        rw [List.drop_take]
        by_cases hm : L.length ≤ 16 * q + 16
        · rw [Nat.min_eq_left hm, List.take_of_length_le (by simp), List.take_of_length_le (by simp only [List.length_drop]; omega)]
        · rw [Nat.min_eq_right (by omega), show 16 * q + 16 - 16 * q = 16 by omega]
      have iB : PC Go.Proofs.Try.prog 26 [.lst 4 (((L.take (min L.length (16 * q + 16))).drop (16 * q)).map En.av) .ro] True (.tuple [.lst 1 ((blkB (partE L q)).map byt) .ro, .val (.int .i64 0)]) := ⟨fun _ => by
        rw [hp]
        have := PC.of (block_Bytes_ok (partE L q) .ro (by unfold partE; simp only [List.length_take]; omega))
        rw [hE] at this
        exact this⟩
      have hx : ((tbB L).take ((headB ((chunksE L).take q)).length + (blkB (partE L q)).length)).drop (headB ((chunksE L).take q)).length = blkB (partE L q) := by
        rw [hT, List.append_assoc, List.drop_take, List.drop_left, Nat.add_sub_cancel_left, List.take_left]
      have hTl : (tbB L).length = (headB ((chunksE L).take q)).length + (blkB (partE L q)).length + R.length := by rw [hT]; simp only [List.length_append]
      have hTb := tbB_len L
      have hql : q < (chunksE L).length := by rw [chunks_len]; omega
      repeat' (first | with_reducible apply Stp.go | with_reducible refine imp fun _ => ?_ | (with_reducible refine hyp ?_ ?_; first | assumption | exact leftT_mem (by assumption)) | (with_reducible refine need ?_ ?_; first | trivial | omega | exact ⟨by assumption, by omega⟩ | (simp only [List.length_append, List.length_cons, List.length_nil, List.length_map, List.length_take, List.length_drop, List.length_replicate, List.length_set]; omega)) | (with_reducible refine fact ?_ ?_; first | trivial | exact ⟨rfl, rfl⟩ | kernel_rfl) | with_reducible refine choT (by assumption) ?_ | with_reducible refine choF (by assumption) ?_ | with_reducible refine choF' (by assumption) ?_ | (with_reducible refine altT ?_ ?_; first | omega | (simp only [List.length_append, List.length_cons, List.length_nil, List.length_map, List.length_take, List.length_drop, List.length_replicate, List.length_set]; omega)) | with_reducible refine altF ?_ | with_reducible refine all fun _ => ?_ | with_reducible refine both ?_ ?_ | (with_reducible refine choT ?_ ?_; omega) | (with_reducible refine choF ?_ ?_; omega) | with_reducible refine cho (fun _ => ?_) (fun _ => ?_))
      all_goals first
        | (refine again (q + 1) (by omega) (by omega) ?_
           rw [hN, List.length_append, show 16 * (q + 1) = 16 * q + 16 by omega]
           exact Sub.refl _ _)
        | contradiction
        | trace_state
    · have e : (chunksE L).take q = chunksE L := List.take_of_length_le (by rw [chunks_len]; omega)
      have hTb := tbB_len L
      have hT : tbB L = lettersB ++ (blocksB (chunksE L) ++ (indexB (chunksE L) ++ (fixed (chunksE L).length ++ fixed (headB (chunksE L)).length))) := by
        unfold tbB partsB headB
        rw [if_pos hf]
        simp only [List.append_assoc]
      have hlt4 : (tbB L).take 4 = lettersB := by rw [hT]; rfl
      have hlen : (tbB L).length = (headB (chunksE L)).length + (indexB (chunksE L)).length + 8 := by
        rw [hT]; simp only [headB, List.length_append, fixed, List.length_cons, List.length_nil]; omega
      rw [e]
      repeat' (first | with_reducible apply Stp.go | with_reducible refine imp fun _ => ?_ | (with_reducible refine hyp ?_ ?_; first | assumption | exact leftT_mem (by assumption)) | (with_reducible refine need ?_ ?_; first | trivial | omega | exact ⟨by assumption, by omega⟩ | (simp only [List.length_append, List.length_cons, List.length_nil, List.length_map, List.length_take, List.length_drop, List.length_replicate, List.length_set]; omega)) | (with_reducible refine fact ?_ ?_; first | trivial | exact ⟨rfl, rfl⟩ | kernel_rfl) | with_reducible refine choT (by assumption) ?_ | with_reducible refine choF (by assumption) ?_ | with_reducible refine choF' (by assumption) ?_ | (with_reducible refine altT ?_ ?_; first | omega | (simp only [List.length_append, List.length_cons, List.length_nil, List.length_map, List.length_take, List.length_drop, List.length_replicate, List.length_set]; omega)) | with_reducible refine altF ?_ | with_reducible refine all fun _ => ?_ | with_reducible refine both ?_ ?_ | (with_reducible refine choT ?_ ?_; omega) | (with_reducible refine choF ?_ ?_; omega) | with_reducible refine cho (fun _ => ?_) (fun _ => ?_))
      all_goals first
        | (rw [decide_eq_true (by omega)]; exact ⟨_, _, _, rfl, Sub.refl _ _, rfl, rfl⟩)
        | contradiction
        | (exfalso; rename_i h; exact h hlt4)
        | trace_state
end Go.Ab
