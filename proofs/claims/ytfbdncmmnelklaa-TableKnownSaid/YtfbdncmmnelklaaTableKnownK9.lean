/- The texts that this claim needs, part 9: a logic over abstract values, its steps, what the functions do. No condition of its own. -/
import Derived.Shelf.SlSortCmp.NoneTotal
import Derived.Test.YtfbdncmmnelklaaTableKnownK8
/- slices.SortFunc at entries: from the kit's contract to a call told of abstract states. -/
set_option linter.unusedVariables false
set_option linter.unusedSimpArgs false
namespace Go.Ab
open Go.Proofs Go.Shelf Go.RowKit Go.Lib Go.Sort
theorem isNaN_walk (x : ByteArray) (W : World) : Calls Go.Proofs.Try.prog 105 #[.string x] W fun e w' => e = .returned (.bool false) ∧ w' = W := by
  go_enter Go.Proofs.Try.func105, Go.Proofs.Try.ntmps105
  go_wp2
  go_ret
  exact ⟨rfl, rfl⟩
set_option maxHeartbeats 1000000 in
theorem compare_walk (a b : List UInt8) (W : World) : Calls Go.Proofs.Try.prog 89 #[.string ⟨a.toArray⟩, .string ⟨b.toArray⟩] W fun e w' => e = .returned (.int .i64 (cmpK a b)) ∧ w' = W := by
  have h86 := isNaN_walk
  have hg : ∀ w, (binOp .gtr 9 (.string ⟨a.toArray⟩) (.string ⟨b.toArray⟩)).run Go.Proofs.Try.prog w = .ok (.bool (!(Op.bytesLess a b || decide (a = b)))) w := fun w => by simp [binOp, Op.stringOp, bdec]
  have hl : Op.bytesLess (⟨a.toArray⟩ : ByteArray).toList (⟨b.toArray⟩ : ByteArray).toList = Op.bytesLess a b := by simp
  go_enter Go.Proofs.Try.func89, Go.Proofs.Try.ntmps89
  go_wp2_with (go_at_call 105; refine (h86 _ _).mono ?_; rintro e w' ⟨rfl, rfl⟩)
  all_goals go_ret
  all_goals refine ⟨?_, rfl⟩
  all_goals simp_all [cmpK, lt]
/-- An entry's cells. -/
def enc (e : En) : List Value := [.string ⟨e.key.toArray⟩, .string ⟨e.val.toArray⟩, .bool e.del, .int .i64 e.seq]
theorem byKey_walk (x y : En) (W : World) : Calls Go.Proofs.Try.prog 74 #[.agg (enc x).toArray, .agg (enc y).toArray] W fun e w' => e = .returned (.int .i64 (cmpK x.key y.key)) ∧ ∃ q os', w' = grow (W.drewN q) os' := by
  have hcon := fun W' => compare_walk x.key y.key W'
  simp only [enc]
  generalize cmpK x.key y.key = r at hcon ⊢
  go_enter Go.Proofs.Try.func74, Go.Proofs.Try.ntmps74
  go_wp2_with (go_at_call 89; refine (hcon _).mono ?_; rintro e w' ⟨rfl, rfl⟩)
  go_ret
  exact ⟨rfl, 0, _, by rw [alloc_eq_grow, alloc_eq_grow, grow_grow]; rfl⟩
theorem ltOf_key (x y : En) : ltOf (fun x y : En => cmpK x.key y.key) x y = lt x.key y.key := by
  unfold ltOf
  cases h : lt x.key y.key with
  | true => simp [cmpK, h]
  | false => have := (cmpK_neg x.key y.key).2 h; simp; omega
theorem swo_key : SWO (ltOf fun x y : En => cmpK x.key y.key) where
  irrefl x := by rw [ltOf_key, lt_irrefl]
  trans x y z h1 h2 := by rw [ltOf_key] at *; exact lt_trans' h1 h2
  ntrans x y z h1 h2 := by
    rw [ltOf_key] at *
    cases h : lt x.key z.key with
    | false => rfl
    | true => rw [lt_of_ge h1 h] at h2; cases h2
theorem flat_enc (l : List En) : flat (l.map En.av) = (l.flatMap enc).map .val := by
  induction l with
  | nil => rfl
  | cons e l ih =>
    simp only [List.map_cons, List.flatMap_cons, List.map_append, ← ih]
    rfl
theorem flatK_enc (d : Array En) : (flatK enc 4 d).toList = d.toList.flatMap enc := by
  obtain ⟨l, rfl⟩ : ∃ l, d = List.toArray l := ⟨d.toList, by simp⟩
  have hf : ∀ l : List En, (l.flatMap enc).length = l.length * 4 := fun l => by
    induction l with
    | nil => rfl
    | cons e l ih => simp only [List.flatMap_cons, List.length_append, ih, List.length_cons, enc, List.length_nil]; omega
  have hg : ∀ (l : List En) (t : Nat), t < l.length * 4 → (l.flatMap enc)[t]? = some ((enc (l.getD (t / 4) default))[t % 4]!) := by
    intro l
    induction l with
    | nil => intro t ht; simp at ht
    | cons e l ih =>
      intro t ht
      rcases Nat.lt_or_ge t 4 with h4 | h4
      · rw [List.flatMap_cons, List.getElem?_append_left (by simpa [enc] using h4)]
        have e1 : t / 4 = 0 := by omega
        have e2 : t % 4 = t := by omega
        rw [e1, e2, List.getD_cons_zero, List.getElem!_eq_getElem?_getD, List.getElem?_eq_getElem (by simpa [enc] using h4)]
        rfl
      · rw [List.flatMap_cons, List.getElem?_append_right (by simpa [enc] using h4)]
        have e3 : (enc e).length = 4 := rfl
        obtain ⟨u, rfl⟩ : ∃ u, t = u + 4 := ⟨t - 4, by omega⟩
        have e1 : (u + 4) / 4 = u / 4 + 1 := by omega
        have e2 : (u + 4) % 4 = u % 4 := by omega
        rw [e3, Nat.add_sub_cancel, e1, e2, List.getD_cons_succ]
        exact ih u (by simp at ht; omega)
  apply List.ext_getElem?
  intro t
  rcases Nat.lt_or_ge t (l.length * 4) with h | h
  · rw [show (List.toArray l).toList = l from rfl, hg l t h]
    have hs : t < (flatK enc 4 l.toArray).size := by simpa using h
    have := get_flatK enc 4 l.toArray t (by simpa using h)
    rw [getElem!_pos _ t hs] at this
    rw [Array.getElem?_toList, Array.getElem?_eq_getElem hs, this]
    simp [List.getD_eq_getElem?_getD, Array.getElem!_eq_getD, Array.getD]
    by_cases h4 : t / 4 < l.length <;> simp [h4]
  · rw [List.getElem?_eq_none (by simpa using h), List.getElem?_eq_none (by rw [hf]; exact h)]
theorem flatMap_enc_length : ∀ l : List En, (l.flatMap enc).length = l.length * 4
  | [] => rfl
  | e :: l => by simp only [List.flatMap_cons, List.length_append, flatMap_enc_length l, List.length_cons, enc, List.length_nil]; omega
theorem enc_one (l : List En) : ∀ v ∈ l.flatMap enc, v.oneCell' = true := by
  intro v hv
  obtain ⟨e, _, h⟩ := List.mem_flatMap.1 hv
  simp only [enc, List.mem_cons, List.not_mem_nil, or_false] at h
  rcases h with rfl | rfl | rfl | rfl <;> rfl
theorem grown_grow (w : World) (os : Array Obj) : w.grownBy (grow w os) none := ⟨rfl, rfl, rfl, by simp, fun k hk _ => heap_grow_old w os hk⟩
theorem body_sort : HasBody Go.Proofs.Try.prog 82 := ⟨Go.Proofs.Try.f82, _, by kernel_rfl, rfl, by kernel_rfl⟩
theorem sort_ok (l : List En) (v : Value) (σ1 σ2 : Store) (hlen : l.length < 4611686018427387904) : ACalls Go.Proofs.Try.prog 82 [.own v l.length, .val (.func (.func 74) #[] #[])] (σ1 ++ .row v 52 4 (l.map En.av) 0 :: σ2)
    fun x σ' => ∃ l' : List En, (l'.Perm l ∧ l'.Pairwise fun a b => lt b.key a.key = false) ∧ x = .ret (.tuple []) ∧ σ' = σ1 ++ .row v 52 4 (l'.map En.av) 0 :: σ2 := by
  refine ⟨body_sort, fun R w vs hv hs => ?_⟩
  obtain ⟨hvl, hvr⟩ := hv
  match vs, hvl with
  | [x, y], _ =>
    have hx := (hvr 0 _ x rfl rfl).own_inv.1
    have hy := (hvr 1 _ y rfl rfl).val_inv
    subst hx; subst hy
    obtain ⟨h1, h2, ⟨xs, hown, hxs, hone⟩, hmx, hR⟩ := hs.ents (.row x 52 4 (l.map En.av) 0) (by simp)
    have hxs' : xs = l.flatMap enc := VRs.toVals (by rw [← flat_enc]; exact hxs)
    subst hxs'
    obtain ⟨hlx, hown⟩ := hown
    rw [List.length_map] at hlx hown
    rcases hown with ⟨rfl, h0⟩ | ⟨g, cap, cur, rfl, hg0, hg, hnc, hcap, hsz, hcur⟩
    · have hl0 : l = [] := List.length_eq_zero_iff.1 h0
      subst hl0
      refine (AnyF.slices_SortFunc_none Go.Proofs.Try.sortEn none 0 _ w).mono ?_
      rintro e w' ⟨rfl, rfl⟩
      exact ⟨.ret (.tuple []), R, _, VR.tuple' (VRs.nil R), ⟨[], ⟨List.Perm.refl _, List.Pairwise.nil⟩, rfl, rfl⟩, hs, Ext.refl _ _ _⟩
    · have hgl : g < w.heap.size := by
        rcases Nat.lt_or_ge g w.heap.size with h | h
        · exact h
        · rw [Array.getElem?_eq_none h] at hg; cases hg
      have eg : ∀ args w, (callFunc 74 args).run Go.Proofs.Try.prog w = .ok (.enter 74 args) w := enters_of Go.Proofs.Try.func74 (by kernel_rfl) rfl
      have hfk := flatK_enc l.toArray
      have hH : HoldsK enc 4 w g 0 l.toArray := by
        intro j hj
        have hj' : j < l.length * 4 := by simpa using hj
        have hc : cur.toList[j]? = (l.flatMap enc)[j]? := by
          rw [← hcur, List.getElem?_take, if_pos hj']
        have hc2 : cur[j]? = some ((flatK enc 4 l.toArray)[j]!) := by
          rw [← Array.getElem?_toList, hc, ← hfk, Array.getElem?_toList, getElem!_pos _ j hj, Array.getElem?_eq_getElem hj]
        exact ⟨by simp only [World.cell?, hg, Nat.zero_add]; simpa using hc2, by simp [World.frozen?, hg]⟩
      have hcon := AnyQ.slices_SortFunc Go.Proofs.Try.sortEn 4 Go.Proofs.Try.isAgg52 Go.Proofs.Try.sizeOf52 enc (fun _ => rfl) (fun e u hu => enc_one [e] u (by simpa using hu)) (fun x y => cmpK x.key y.key) swo_key 74 #[] g 0 cap l.toArray w eg (fun _ _ _ _ x y => byKey_walk x y _) hH hgl (by simpa using hlen)
      refine hcon.mono ?_
      rintro e w' ⟨rfl, d', n, os, hp, hso, rfl⟩
      obtain ⟨hds, _, hpm⟩ := hp
      have hds : d'.size = l.length := by simpa using hds
      have hperm : d'.toList.Perm l := by
        have h3 := hpm
        simp only [List.size_toArray, ← hds, Array.extract_size] at h3
        rw [hds, show l.length = l.toArray.size from rfl, Array.extract_size] at h3
        exact h3
      have hpw : d'.toList.Pairwise fun a b => lt b.key a.key = false := by
        rw [List.pairwise_iff_getElem]
        intro i j hi hj hij
        have := hso i j (Nat.zero_le _) hij (by simpa [← hds] using hj)
        rw [ltOf_key, getElem!_pos d' j (by simpa using hj), getElem!_pos d' i (by simpa using hi)] at this
        simpa using this
      obtain ⟨cur', hcur'⟩ : ∃ c, c = putCells id 0 (flatK enc 4 d') cur := ⟨_, rfl⟩
      have hmod : ∀ k, (putRowK enc 4 (Go.Sort.ahead w n) g 0 d').heap[k]? = if k = g then some (.cells cur' 52 (0, 0)) else w.heap[k]? := by
        intro k
        show (w.heap.modify g _)[k]? = _
        rw [Array.getElem?_modify]
        by_cases hk : k = g
        · subst hk
          rw [if_pos rfl, if_pos rfl, hg, hcur']
          rfl
        · rw [if_neg (fun h => hk h.symm), if_neg hk]
      have htake : cur'.toList.take (l.length * 4) = d'.toList.flatMap enc := by
        rw [← flatK_enc, hcur']
        apply List.ext_getElem?
        intro t
        have hfs : (flatK enc 4 d').size = l.length * 4 := by simp [hds]
        have hcs : l.length * 4 ≤ cur.size := by rw [hsz]; exact Nat.mul_le_mul_right 4 hnc
        rcases Nat.lt_or_ge t (l.length * 4) with h | h
        · rw [List.getElem?_take, if_pos h, Array.getElem?_toList, Array.getElem?_toList]
          unfold putCells
          rw [Array.getElem?_mapIdx, Array.getElem?_eq_getElem (by omega : t < cur.size), Array.getElem?_eq_getElem (by omega : t < (flatK enc 4 d').size)]
          simp only [Option.map_some, Nat.zero_le, true_and, Nat.zero_add, Nat.sub_zero, id_eq]
          rw [if_pos (by omega), getElem!_pos _ t (by omega)]
        · rw [List.getElem?_eq_none (by simp; omega), List.getElem?_eq_none (by simp; omega)]
      have hcs' : cur'.size = cap * 4 := by rw [hcur']; simp [putCells, hsz]
      have hE : EntOk R (putRowK enc 4 (Go.Sort.ahead w n) g 0 d') (.row (.slice (some ⟨g, 0, none⟩) l.length cap) 52 4 (d'.toList.map En.av) 0) := by
        refine ⟨h1, fun e he => ?_, ⟨d'.toList.flatMap enc, ⟨?_, .inr ⟨g, cap, cur', ?_, hg0, ?_, ?_, hcap, hcs', ?_⟩⟩, ?_, enc_one _⟩, ?_, fun a x ha hb => ?_⟩
        · obtain ⟨e0, _, rfl⟩ := List.mem_map.1 he
          rfl
        · rw [flatMap_enc_length]; simp
        · simp [hds]
        · rw [hmod, if_pos rfl]
        · simpa [hds] using hnc
        · simpa [hds] using htake
        · rw [flat_enc]; exact VRs.ofVals R _
        · simpa [hds] using hmx
        · have := hR a x ha hb
          omega
      have hst := st_change (b := g) (e' := .row (.slice (some ⟨g, 0, none⟩) l.length cap) 52 4 (d'.toList.map En.av) 0) hs rfl rfl (w' := putRowK enc 4 (Go.Sort.ahead w n) g 0 d') rfl rfl rfl (by show (w.heap.modify g _).size = _; simp) (fun k hk => by rw [hmod, if_neg hk]) (fun a x ha hb => by
        have := hR a x ha (by simp [Value.ownBlock, hb])
        omega) hE
      obtain ⟨q1, q2⟩ := hst
      obtain ⟨q3, q4⟩ := st_roNew q1 (grown_grow _ os)
      exact ⟨.ret (.tuple []), _, _, VR.tuple' (VRs.nil _), ⟨d'.toList, ⟨hperm, hpw⟩, rfl, rfl⟩, q3, q2.trans q4⟩
instance sortQ {l : List En} {v : Value} {n : Nat} {σ rest : Store} {put : Ent → Store} [hr : RowAt v σ 52 4 (l.map En.av) 0 put rest] :
    EQ Go.Proofs.Try.prog 82 [.own v n, .val (.func (.func 74) #[] #[])] σ (n = l.length ∧ l.length < 4611686018427387904) (List En) (fun l' => l'.Perm l ∧ l'.Pairwise fun a b => lt b.key a.key = false) (fun _ => .tuple []) (fun l' => put (.row v 52 4 (l'.map En.av) 0)) := ⟨fun ⟨h1, h2⟩ => by
  obtain ⟨σ1, σ2, e, e2, _⟩ := hr.at_
  subst h1; subst e
  simp only [e2]
  exact sort_ok l v σ1 σ2 h2⟩
end Go.Ab

/- The code's fold. -/
set_option linter.unusedVariables false
set_option linter.unusedSimpArgs false
namespace Go.Ab
def entry_Fold.mark : Mark := ⟨fun t => false, fun t => false, fun t => false, fun t => Nat.beq t 17, fun t => Nat.beq t 40⟩
def entry_Fold.ann : Ann := ⟨fun n => bif Nat.beq n 3 then [3, 12, 13, 14] else bif Nat.beq n 11 then [8, 43] else [], fun n => none, fun n => none⟩
/-- 'marlstone/entry.Fold' -/
def entry_Fold.sh (a0 : AV) (σ : Store) (Q : AEnd → Store → Prop) : Prop :=
  aHook (eMakeMap σ) fun t11 σ =>
  Do (aBuiltin Go.Proofs.Try.prog .len #[22] [a0]) fun t13 =>
  aLoop (fun go vs σ_1 =>
    At vs 0 fun s3 => At vs 1 fun s12 => At vs 2 fun s13 => At vs 3 fun s14 => Do (aBin Go.Proofs.Try.prog .lss 3 s14 s13) fun t15 =>
    aCond t15
      (Do (aIndexAddr .slice 4 s12 s14) fun t16 =>
    Do (loadF true 4 t16) fun t17 =>
    aNewVar 52 [.val (.string ⟨#[]⟩), .val (.string ⟨#[]⟩), .val (.bool false), .val (.int .i64 0)] σ_1 fun t5 σ_2 =>
    storeA 4 t5 t17 σ_2 fun u σ_3 =>
    Do (aFieldAddr 0 1 t5) fun t20 =>
    Do (loadA false 1 t20 σ_3) fun t21 =>
    Do (lookA Go.Proofs.Try.prog 115 true s3 t21 σ_3) fun t22 =>
    Do (aExt t22 0) fun t23 =>
    Do (aExt t22 1) fun t24 =>
    aNewVar 52 [.val (.string ⟨#[]⟩), .val (.string ⟨#[]⟩), .val (.bool false), .val (.int .i64 0)] σ_3 fun t6 σ_4 =>
    storeA 4 t6 t23 σ_4 fun u_1 σ_5 =>
    Do (aUn Go.Proofs.Try.prog .not t24) fun t26 =>
    Do (aGuard t26 false (aFieldAddr 3 1 t5)) fun t28 =>
    Do (aGuard t26 false (loadA false 1 t28 σ_5)) fun t29 =>
    Do (aGuard t26 false (aFieldAddr 3 1 t6)) fun t30 =>
    Do (aGuard t26 false (loadA false 1 t30 σ_5)) fun t31 =>
    Do (aGuard t26 false (aBin Go.Proofs.Try.prog .geq 3 t29 t31)) fun t32 =>
    Do (aPick t26 (.val (.bool true)) t32) fun t33 =>
    aCond t33
      (Do (aFieldAddr 0 1 t5) fun t35 =>
      Do (loadA false 1 t35 σ_5) fun t36 =>
      Do (loadA true 4 t5 σ_5) fun t37 =>
      aHook (eMapUpd Go.Proofs.Try.prog 115 s3 t36 t37 σ_5) fun u_2 σ_6 =>
      Do (aBin Go.Proofs.Try.prog .add 3 s14 (.val (.int .i64 1))) fun t38 =>
    go [s3, s12, s13, t38] σ_6)
      (Do (aBin Go.Proofs.Try.prog .add 3 s14 (.val (.int .i64 1))) fun t38_1 =>
    go [s3, s12, s13, t38_1] σ_5))
      (Do (lenMA Go.Proofs.Try.prog 115 s3 σ_1) fun t40 =>
  aMake 52 [(.string ⟨#[]⟩), (.string ⟨#[]⟩), (.bool false), (.int .i64 0)] 4 48 (.val (.int .i64 0)) t40 σ_1 (subK fun t41 σ_7 =>
  aHook (eRange Go.Proofs.Try.prog 115 s3 σ_7) fun t43 σ_8 =>
  aLoop (fun go_1 vs_1 σ_9 =>
    At vs_1 0 fun s8 => At vs_1 1 fun s43 => aHook (eNext s43 σ_9) fun t44 σ_10 =>
    Do (aExt t44 0) fun t45 =>
    aCond t45
      (Do (entryA s43 σ_10) fun t46 =>
    Do (aExt t46 1) fun t47 =>
    aNewVar 52 [.val (.string ⟨#[]⟩), .val (.string ⟨#[]⟩), .val (.bool false), .val (.int .i64 0)] σ_10 fun t10 σ_11 =>
    storeA 4 t10 t47 σ_11 fun u_3 σ_12 =>
    Do (loadA true 4 t10 σ_12) fun t49 =>
    Do (aSlLit (mkE [.val (.string ⟨#[]⟩), .val (.string ⟨#[]⟩), .val (.bool false), .val (.int .i64 0)]) 4 1 [(0, t49)]) fun t50 =>
    aAppend 52 4 48 s8 t50 σ_12 (subK fun t51 σ_13 =>
    go_1 [t51, s43] σ_13))
      (aCall Go.Proofs.Try.prog 82 [s8, (.val (.func (.func 74) #[] #[]))] σ_10 (fun t53 σ_14 =>
  Q (.ret s8) σ_14) (fun e σ_15 => Q (.pan e) σ_15)))
    [t41, t43] σ_8)))
    [t11, a0, t13, (.val (.int .i64 0))] σ
theorem entry_Fold.eq (a0 : AV) (σ : Store) (Q : AEnd → Store → Prop) : vc (semOf Go.Proofs.Try.prog entry_Fold.mark) Go.Proofs.Try.f57.ntmps entry_Fold.ann (bodyOf Go.Proofs.Try.f57) (endK [.tmp 2] Q) (argFr [a0]) σ = entry_Fold.sh a0 σ Q := by kernel_rfl
theorem entry_Fold.go {a0 : AV} {σ : Store} {Q : AEnd → Store → Prop} (h : entry_Fold.sh a0 σ Q) : ACalls Go.Proofs.Try.prog 57 [a0] σ Q :=
  acalls_of_eq [.tmp 2] Go.Proofs.Try.func57 (by kernel_rfl) (by kernel_rfl) (by kernel_rfl) (by kernel_rfl) (entry_Fold.eq a0 σ Q) h
theorem Fold_ok (l : List En) (m : SM) (hl : l.length ≤ 1000000000) : ACalls Go.Proofs.Try.prog 57 [.lst 4 (l.map En.av) m] [] fun x σ' => ∃ v, x = .ret (.own v (foldE l).length) ∧ σ' = [.row v 52 4 ((foldE l).map En.av) 0] := by
  refine ACalls.fin (entry_Fold.go ?_)
  unfold entry_Fold.sh
  repeat' (first | with_reducible apply Stp.go | with_reducible refine imp fun _ => ?_ | (with_reducible refine hyp ?_ ?_; first | assumption | exact leftT_mem (by assumption)) | (with_reducible refine need ?_ ?_; first | trivial | omega | exact ⟨by assumption, by omega⟩ | (simp only [List.length_append, List.length_cons, List.length_nil, List.length_map, List.length_take, List.length_drop, List.length_replicate, List.length_set]; omega)) | (with_reducible refine fact ?_ ?_; first | trivial | exact ⟨rfl, rfl⟩ | kernel_rfl) | with_reducible refine choT (by assumption) ?_ | with_reducible refine choF (by assumption) ?_ | with_reducible refine choF' (by assumption) ?_ | (with_reducible refine altT ?_ ?_; first | omega | (simp only [List.length_append, List.length_cons, List.length_nil, List.length_map, List.length_take, List.length_drop, List.length_replicate, List.length_set]; omega)) | with_reducible refine altF ?_ | with_reducible refine all fun _ => ?_ | with_reducible refine both ?_ ?_ | (with_reducible refine choT ?_ ?_; omega) | (with_reducible refine choF ?_ ?_; omega) | with_reducible refine cho (fun _ => ?_) (fun _ => ?_))
  rename_i mb
  refine loopI (β := Nat × List (Nat × List UInt8 × En) × Nat) (fun x => x.1 ≤ l.length ∧ Tbl x.2.1 x.2.2 (foldE (l.take x.1)) ∧ x.2.1.length ≤ x.1) (fun x => [.val (.map (some mb)), .lst 4 (l.map En.av) m, I .i64 (l.length : Nat), I .i64 (x.1 : Nat)])
    (fun x => [.map mb (mkM keyS En.av x.2.1) x.2.2]) (fun x => l.length - x.1) (0, [], 0) ⟨Nat.zero_le _, Tbl.nil, Nat.le_refl _⟩ (Sub.refl _ _) ?_
  rintro ⟨i, L, c⟩ ⟨hi, ht, hL⟩
  dsimp only at hi ht hL ⊢
  have hF := foldE_rises (l.take i)
  by_cases hlt : i < l.length
  · have hs := foldE_take_succ hlt
    have hset := ht.set hF (e := l.getD i default)
    have hkeep := fun x => ht.keep hF (e := l.getD i default) (x := x)
    have hsl := setT_length (l.getD i default).key (l.getD i default) c L
    rw [← hs] at hset hkeep
    repeat' (first | with_reducible apply Stp.go | with_reducible refine imp fun _ => ?_ | (with_reducible refine hyp ?_ ?_; first | assumption | exact leftT_mem (by assumption)) | (with_reducible refine need ?_ ?_; first | trivial | omega | exact ⟨by assumption, by omega⟩ | (simp only [List.length_append, List.length_cons, List.length_nil, List.length_map, List.length_take, List.length_drop, List.length_replicate, List.length_set]; omega)) | (with_reducible refine fact ?_ ?_; first | trivial | exact ⟨rfl, rfl⟩ | kernel_rfl) | with_reducible refine choT (by assumption) ?_ | with_reducible refine choF (by assumption) ?_ | with_reducible refine choF' (by assumption) ?_ | (with_reducible refine altT ?_ ?_; first | omega | (simp only [List.length_append, List.length_cons, List.length_nil, List.length_map, List.length_take, List.length_drop, List.length_replicate, List.length_set]; omega)) | with_reducible refine altF ?_ | with_reducible refine all fun _ => ?_ | with_reducible refine both ?_ ?_ | (with_reducible refine choT ?_ ?_; omega) | (with_reducible refine choF ?_ ?_; omega) | with_reducible refine cho (fun _ => ?_) (fun _ => ?_))
    · rename_i h1 h2
      refine again (i + 1, setT (l.getD i default).key (l.getD i default) c L, bif hasT (l.getD i default).key L then c else c + 1) (by dsimp only; omega) ⟨by dsimp only; omega, hset fun x hx => by rw [hx] at h2; exact h2, by dsimp only; omega⟩ ?_
      exact subS _
    · rename_i h1 h2
      obtain ⟨x, hx⟩ := Option.isSome_iff_exists.1 h1
      rw [hx] at h2
      refine again (i + 1, L, c) (by dsimp only; omega) ⟨by dsimp only; omega, hkeep x hx h2, by dsimp only; omega⟩ ?_
      exact subS _
    · rename_i h1
      refine again (i + 1, setT (l.getD i default).key (l.getD i default) c L, bif hasT (l.getD i default).key L then c else c + 1) (by dsimp only; omega) ⟨by dsimp only; omega, hset fun x hx => by rw [hx] at h1; exact absurd rfl h1, by dsimp only; omega⟩ ?_
      exact subS _
  · have e : l.take i = l := List.take_of_length_le (by omega)
    rw [e] at ht hF
    repeat' (first | with_reducible apply Stp.go | with_reducible refine imp fun _ => ?_ | (with_reducible refine hyp ?_ ?_; first | assumption | exact leftT_mem (by assumption)) | (with_reducible refine need ?_ ?_; first | trivial | omega | exact ⟨by assumption, by omega⟩ | (simp only [List.length_append, List.length_cons, List.length_nil, List.length_map, List.length_take, List.length_drop, List.length_replicate, List.length_set]; omega)) | (with_reducible refine fact ?_ ?_; first | trivial | exact ⟨rfl, rfl⟩ | kernel_rfl) | with_reducible refine choT (by assumption) ?_ | with_reducible refine choF (by assumption) ?_ | with_reducible refine choF' (by assumption) ?_ | (with_reducible refine altT ?_ ?_; first | omega | (simp only [List.length_append, List.length_cons, List.length_nil, List.length_map, List.length_take, List.length_drop, List.length_replicate, List.length_set]; omega)) | with_reducible refine altF ?_ | with_reducible refine all fun _ => ?_ | with_reducible refine both ?_ ?_ | (with_reducible refine choT ?_ ?_; omega) | (with_reducible refine choF ?_ ?_; omega) | with_reducible refine cho (fun _ => ?_) (fun _ => ?_))
    rename_i v0 it
    refine loopI (β := Value × List En × List Nat) (fun x => (x.2.1 ++ (leftT L x.2.2).map (·.2.2)).Perm (L.map (·.2.2))) (fun x => [.own x.1 x.2.1.length, ptrAt it 0])
      (fun x => [.iter it mb c x.2.2 c, .row x.1 52 4 (x.2.1.map En.av) 0, .map mb (mkM keyS En.av L) c]) (fun x => (leftT L x.2.2).length) (v0, [], []) ?_ (Sub.refl _ _) ?_
    · dsimp only
      rw [left_nil]
      exact List.Perm.refl _
    · rintro ⟨v, o, seen⟩ hp
      dsimp only at hp ⊢
      have hol : o.length ≤ L.length := by
        have := hp.length_eq
        simp only [List.length_append, List.length_map] at this
        omega
      repeat' (first | with_reducible apply Stp.go | with_reducible refine imp fun _ => ?_ | (with_reducible refine hyp ?_ ?_; first | assumption | exact leftT_mem (by assumption)) | (with_reducible refine need ?_ ?_; first | trivial | omega | exact ⟨by assumption, by omega⟩ | (simp only [List.length_append, List.length_cons, List.length_nil, List.length_map, List.length_take, List.length_drop, List.length_replicate, List.length_set]; omega)) | (with_reducible refine fact ?_ ?_; first | trivial | exact ⟨rfl, rfl⟩ | kernel_rfl) | with_reducible refine choT (by assumption) ?_ | with_reducible refine choF (by assumption) ?_ | with_reducible refine choF' (by assumption) ?_ | (with_reducible refine altT ?_ ?_; first | omega | (simp only [List.length_append, List.length_cons, List.length_nil, List.length_map, List.length_take, List.length_drop, List.length_replicate, List.length_set]; omega)) | with_reducible refine altF ?_ | with_reducible refine all fun _ => ?_ | with_reducible refine both ?_ ?_ | (with_reducible refine choT ?_ ?_; omega) | (with_reducible refine choF ?_ ?_; omega) | with_reducible refine cho (fun _ => ?_) (fun _ => ?_))
      · rename_i h0 o' hq
        rw [h0, List.map_nil, List.append_nil] at hp
        have e1 : o' = foldE l := ht.sorted hF (hq.1.trans hp) hq.2
        have e2 : o.length = (foldE l).length := by rw [← e1]; exact hq.1.length_eq.symm
        subst e1
        exact ⟨_, _, _, rfl, subS _, v, by rw [e2], rfl⟩
      · rename_i x hx t w
        have hlt := left_take ht.nb hx
        refine again (w, o ++ [x.2.2], seen ++ [x.1]) ?_ ?_ ?_
        · have := hlt.length_eq
          simp only [List.length_cons] at this
          dsimp only
          omega
        · dsimp only
          rw [List.append_assoc]
          exact ((((hlt.map (·.2.2)).symm).append_left o)).trans hp
        · exact subS _
theorem Fold_pure (l : List En) (m : SM) (hl : l.length ≤ 1000000000) : aPure Go.Proofs.Try.prog 57 [.lst 4 (l.map En.av) m] (.lst 4 ((foldE l).map En.av) .ro) :=
  ACalls.fin ((Fold_ok l m hl).mono fun x τ ⟨v, e1, e2⟩ => ⟨_, _, _, e1, by rw [e2]; exact retOwn (Sub.refl _ _), rfl, rfl⟩)
instance {a : AV} {l : List En} {m : SM} [h : IsL a En.av 4 l m] : PC Go.Proofs.Try.prog 57 [a] (l.length ≤ 1000000000) (.lst 4 ((foldE l).map En.av) .ro) := ⟨fun hl => ⟨[.lst 4 (l.map En.av) m], ⟨h.sub, trivial⟩, Fold_pure l m hl⟩⟩
end Go.Ab

/- Layer 11: few entries; those that are right, folded. -/
set_option linter.unusedVariables false
set_option linter.unusedSimpArgs false
namespace Go.Ab
def law11_few.mark : Mark := ⟨fun t => false, fun t => false, fun t => false, fun t => Nat.beq t 22, fun t => false⟩
def law11_few.ann : Ann := ⟨fun n => bif Nat.beq n 3 then [0, 1, 5, 6] else [], fun n => none, fun n => none⟩
/-- 'marlstone/marlstonelaw11.few' -/
def law11_few.sh (a0 a1 : AV) (σ : Store) (Q : AEnd → Store → Prop) : Prop :=
  aLoop (fun go vs σ =>
    At vs 0 fun s0 => At vs 1 fun s1 => At vs 2 fun s5 => At vs 3 fun s6 => Do (aBuiltin Go.Proofs.Try.prog .len #[22] [s0]) fun t10 =>
    Do (aBin Go.Proofs.Try.prog .lss 3 s6 t10) fun t11 =>
    Do (aGuard t11 true (aIs s6)) fun t13 =>
    Do (aGuard t11 true (aIs s1)) fun t14 =>
    Do (aGuard t11 true (aBin Go.Proofs.Try.prog .lss 3 t13 t14)) fun t15 =>
    Do (aPick t11 t15 (.val (.bool false))) fun t16 =>
    aCond t16
      (Do (aIndexAddr .slice 4 s0 s6) fun t21 =>
    Do (loadF true 4 t21) fun t22 =>
    aNewVar 52 [.val (.string ⟨#[]⟩), .val (.string ⟨#[]⟩), .val (.bool false), .val (.int .i64 0)] σ fun t7 σ_1 =>
    storeA 4 t7 t22 σ_1 fun u σ_2 =>
    Do (aFieldAddr 0 1 t7) fun t23 =>
    Do (loadA false 1 t23 σ_2) fun t24 =>
    Do (aFieldAddr 0 1 t7) fun t25 =>
    Do (loadA false 1 t25 σ_2) fun t26 =>
    Do (aBuiltin Go.Proofs.Try.prog .len #[9] [t26]) fun t27 =>
    Do (aBuiltin Go.Proofs.Try.prog .min #[3, 3] [t27, (.val (.int .i64 130))]) fun t28 =>
    Do (aSlice .string 1 t24 none (some t28) none) fun t29 =>
    Do (aFieldAddr 0 1 t7) fun t30 =>
    storeA 1 t30 t29 σ_2 fun u_1 σ_3 =>
    Do (aFieldAddr 1 1 t7) fun t31 =>
    Do (loadA false 1 t31 σ_3) fun t32 =>
    Do (aFieldAddr 1 1 t7) fun t33 =>
    Do (loadA false 1 t33 σ_3) fun t34 =>
    Do (aBuiltin Go.Proofs.Try.prog .len #[9] [t34]) fun t35 =>
    Do (aBuiltin Go.Proofs.Try.prog .min #[3, 3] [t35, (.val (.int .i64 1030))]) fun t36 =>
    Do (aSlice .string 1 t32 none (some t36) none) fun t37 =>
    Do (aFieldAddr 1 1 t7) fun t38 =>
    storeA 1 t38 t37 σ_3 fun u_2 σ_4 =>
    Do (loadA true 4 t7 σ_4) fun t40 =>
    Do (aSlLit (mkE [.val (.string ⟨#[]⟩), .val (.string ⟨#[]⟩), .val (.bool false), .val (.int .i64 0)]) 4 1 [(0, t40)]) fun t41 =>
    aAppend 52 4 48 s5 t41 σ_4 (subK fun t42 σ_5 =>
    Do (aBin Go.Proofs.Try.prog .add 3 s6 (.val (.int .i64 1))) fun t18 =>
    go [s0, s1, t42, t18] σ_5))
      (Q (.ret s5) σ))
    [a0, a1, (.val (.slice none 0 0)), (.val (.int .i64 0))] σ
theorem law11_few.eq (a0 a1 : AV) (σ : Store) (Q : AEnd → Store → Prop) : vc (semOf Go.Proofs.Try.prog law11_few.mark) Go.Proofs.Try.f12.ntmps law11_few.ann (bodyOf Go.Proofs.Try.f12) (endK [.tmp 4] Q) (argFr [a0, a1]) σ = law11_few.sh a0 a1 σ Q := by kernel_rfl
theorem law11_few.go {a0 a1 : AV} {σ : Store} {Q : AEnd → Store → Prop} (h : law11_few.sh a0 a1 σ Q) : ACalls Go.Proofs.Try.prog 12 [a0, a1] σ Q :=
  acalls_of_eq [.tmp 4] Go.Proofs.Try.func12 (by kernel_rfl) (by kernel_rfl) (by kernel_rfl) (by kernel_rfl) (law11_few.eq a0 a1 σ Q) h
def law11_fit.mark : Mark := ⟨fun t => Nat.beq t 7 || Nat.beq t 8 || Nat.beq t 24, fun t => false, fun t => false, fun t => Nat.beq t 23 || Nat.beq t 29, fun t => false⟩
def law11_fit.ann : Ann := ⟨fun n => bif Nat.beq n 4 then [3, 4, 5] else [], fun n => none, fun n => none⟩
/-- 'marlstone/marlstonelaw11.fit' -/
def law11_fit.sh (a0 : AV) (σ : Store) (Q : AEnd → Store → Prop) : Prop :=
  Do (aPureC Go.Proofs.Try.prog 12 [a0, (.val (.int .i64 70))]) fun t7 =>
  Do (aPureC Go.Proofs.Try.prog 57 [t7]) fun t8 =>
  aLoop (fun go vs σ =>
    At vs 0 fun s3 => At vs 1 fun s4 => At vs 2 fun s5 => Do (aBuiltin Go.Proofs.Try.prog .len #[22] [s4]) fun t11 =>
    Do (aBin Go.Proofs.Try.prog .lss 3 s5 t11) fun t12 =>
    Do (aGuard t12 true (aIs s3)) fun t14 =>
    Do (aGuard t12 true (aBuiltin Go.Proofs.Try.prog .len #[22] [t14])) fun t15 =>
    Do (aGuard t12 true (aBin Go.Proofs.Try.prog .lss 3 t15 (.val (.int .i64 64)))) fun t16 =>
    Do (aPick t12 t16 (.val (.bool false))) fun t17 =>
    aCond t17
      (Do (aIndexAddr .slice 4 s4 s5) fun t22 =>
    Do (loadF true 4 t22) fun t23 =>
    Do (aPureC Go.Proofs.Try.prog 46 [t23]) fun t24 =>
    aCond t24
      (Do (aIndexAddr .slice 4 s4 s5) fun t28 =>
      Do (loadF true 4 t28) fun t29 =>
      Do (aSlLit (mkE [.val (.string ⟨#[]⟩), .val (.string ⟨#[]⟩), .val (.bool false), .val (.int .i64 0)]) 4 1 [(0, t29)]) fun t30 =>
      aAppend 52 4 48 s3 t30 σ (subK fun t31 σ_1 =>
      Do (aBin Go.Proofs.Try.prog .add 3 s5 (.val (.int .i64 1))) fun t19 =>
    go [t31, s4, t19] σ_1))
      (Do (aBin Go.Proofs.Try.prog .add 3 s5 (.val (.int .i64 1))) fun t19_1 =>
    go [s3, s4, t19_1] σ))
      (Q (.ret s3) σ))
    [(.val (.slice none 0 0)), t8, (.val (.int .i64 0))] σ
theorem law11_fit.eq (a0 : AV) (σ : Store) (Q : AEnd → Store → Prop) : vc (semOf Go.Proofs.Try.prog law11_fit.mark) Go.Proofs.Try.f25.ntmps law11_fit.ann (bodyOf Go.Proofs.Try.f25) (endK [.tmp 2] Q) (argFr [a0]) σ = law11_fit.sh a0 σ Q := by kernel_rfl
theorem law11_fit.go {a0 : AV} {σ : Store} {Q : AEnd → Store → Prop} (h : law11_fit.sh a0 σ Q) : ACalls Go.Proofs.Try.prog 25 [a0] σ Q :=
  acalls_of_eq [.tmp 2] Go.Proofs.Try.func25 (by kernel_rfl) (by kernel_rfl) (by kernel_rfl) (by kernel_rfl) (law11_fit.eq a0 σ Q) h
theorem few11_ok (l : List En) (m : SM) (k : Nat) (hl : l.length ≤ 100000000000000) (hk : k ≤ 1000) : aPure Go.Proofs.Try.prog 12 [.lst 4 (l.map En.av) m, I .i64 (k : Nat)] (.lst 4 (((l.take k).map (cutE 130 1030)).map En.av) .ro) := by
  refine ACalls.fin (law11_few.go ?_)
  unfold law11_few.sh
  repeat' (first | with_reducible apply Stp.go | with_reducible refine imp fun _ => ?_ | (with_reducible refine hyp ?_ ?_; first | assumption | exact leftT_mem (by assumption)) | (with_reducible refine need ?_ ?_; first | trivial | omega | exact ⟨by assumption, by omega⟩ | (simp only [List.length_append, List.length_cons, List.length_nil, List.length_map, List.length_take, List.length_drop, List.length_replicate, List.length_set]; omega)) | (with_reducible refine fact ?_ ?_; first | trivial | exact ⟨rfl, rfl⟩ | kernel_rfl) | with_reducible refine choT (by assumption) ?_ | with_reducible refine choF (by assumption) ?_ | with_reducible refine choF' (by assumption) ?_ | (with_reducible refine altT ?_ ?_; first | omega | (simp only [List.length_append, List.length_cons, List.length_nil, List.length_map, List.length_take, List.length_drop, List.length_replicate, List.length_set]; omega)) | with_reducible refine altF ?_ | with_reducible refine all fun _ => ?_ | with_reducible refine both ?_ ?_ | (with_reducible refine choT ?_ ?_; omega) | (with_reducible refine choF ?_ ?_; omega) | with_reducible refine cho (fun _ => ?_) (fun _ => ?_))
  refine loopI (β := Nat × Value) (fun x => x.1 ≤ l.length ∧ x.1 ≤ k) (fun x => [.lst 4 (l.map En.av) m, I .i64 (k : Nat), .own x.2 x.1, I .i64 (x.1 : Nat)]) (fun x => [.row x.2 52 4 (((l.take x.1).map (cutE 130 1030)).map En.av) 0]) (fun x => k - x.1) (0, _) ⟨Nat.zero_le _, Nat.zero_le _⟩ (Sub.nil_own 52 (by decide) _ [_, _] [_]) ?_
  rintro ⟨i, v⟩ ⟨h1, h2⟩
  dsimp only at h1 h2 ⊢
  repeat' (first | with_reducible apply Stp.go | with_reducible refine imp fun _ => ?_ | (with_reducible refine hyp ?_ ?_; first | assumption | exact leftT_mem (by assumption)) | (with_reducible refine need ?_ ?_; first | trivial | omega | exact ⟨by assumption, by omega⟩ | (simp only [List.length_append, List.length_cons, List.length_nil, List.length_map, List.length_take, List.length_drop, List.length_replicate, List.length_set]; omega)) | (with_reducible refine fact ?_ ?_; first | trivial | exact ⟨rfl, rfl⟩ | kernel_rfl) | with_reducible refine choT (by assumption) ?_ | with_reducible refine choF (by assumption) ?_ | with_reducible refine choF' (by assumption) ?_ | (with_reducible refine altT ?_ ?_; first | omega | (simp only [List.length_append, List.length_cons, List.length_nil, List.length_map, List.length_take, List.length_drop, List.length_replicate, List.length_set]; omega)) | with_reducible refine altF ?_ | with_reducible refine all fun _ => ?_ | with_reducible refine both ?_ ?_ | (with_reducible refine choT ?_ ?_; omega) | (with_reducible refine choF ?_ ?_; omega) | with_reducible refine cho (fun _ => ?_) (fun _ => ?_))
  · rename_i w
    refine again (i + 1, w) (by dsimp only; omega) ⟨by dsimp only; omega, by dsimp only; omega⟩ ?_
    have e : (l.take (i + 1)).map (cutE 130 1030) = (l.take i).map (cutE 130 1030) ++ [cutE 130 1030 (l.getD i default)] := by rw [take_succ_d (by omega), List.map_append]; rfl
    have en : ((l.take i).map (cutE 130 1030)).length = i := by simp; omega
    dsimp only
    rw [e, List.length_append, en, take_minN, take_minN]
    exact Sub.drop_ (List.sublist_cons_self _ _) _
  · have e : i = min l.length k := by omega
    refine ⟨_, _, _, rfl, retOwn (Sub.refl _ _), ?_, rfl⟩
    rw [e, take_minN]
  · have e : i = min l.length k := by omega
    refine ⟨_, _, _, rfl, retOwn (Sub.refl _ _), ?_, rfl⟩
    rw [e, take_minN]
instance {a : AV} {l : List En} {m : SM} {k : Nat} {x : Int} [h : IsL a En.av 4 l m] [hk : NatOf x k] : PC Go.Proofs.Try.prog 12 [a, .val (.int .i64 x)] (l.length ≤ 100000000000000 ∧ k ≤ 1000) (.lst 4 (((l.take k).map (cutE 130 1030)).map En.av) .ro) := ⟨fun hl => by rw [hk.eq]; exact ⟨[.lst 4 (l.map En.av) m, I .i64 (k : Nat)], ⟨h.sub, SubVs.refl _⟩, few11_ok l m k hl.1 hl.2⟩⟩
theorem fit11_ok (l : List En) (m : SM) (hl : l.length ≤ 100000000000000) : aPure Go.Proofs.Try.prog 25 [.lst 4 (l.map En.av) m] (.lst 4 ((fitL ((l.take 70).map (cutE 130 1030))).map En.av) .ro) := by
  refine ACalls.fin (law11_fit.go ?_)
  unfold law11_fit.sh
  obtain ⟨L, hL⟩ : ∃ L, L = (l.take 70).map (cutE 130 1030) := ⟨_, rfl⟩
  have h70 : L.length ≤ 70 := by rw [hL]; simp; omega
  have hf := foldE_length L
  repeat' (first | with_reducible apply Stp.go | with_reducible refine imp fun _ => ?_ | (with_reducible refine hyp ?_ ?_; first | assumption | exact leftT_mem (by assumption)) | (with_reducible refine need ?_ ?_; first | trivial | omega | exact ⟨by assumption, by omega⟩ | (simp only [List.length_append, List.length_cons, List.length_nil, List.length_map, List.length_take, List.length_drop, List.length_replicate, List.length_set]; omega)) | (with_reducible refine fact ?_ ?_; first | trivial | exact ⟨rfl, rfl⟩ | kernel_rfl) | with_reducible refine choT (by assumption) ?_ | with_reducible refine choF (by assumption) ?_ | with_reducible refine choF' (by assumption) ?_ | (with_reducible refine altT ?_ ?_; first | omega | (simp only [List.length_append, List.length_cons, List.length_nil, List.length_map, List.length_take, List.length_drop, List.length_replicate, List.length_set]; omega)) | with_reducible refine altF ?_ | with_reducible refine all fun _ => ?_ | with_reducible refine both ?_ ?_ | (with_reducible refine choT ?_ ?_; omega) | (with_reducible refine choF ?_ ?_; omega) | with_reducible refine cho (fun _ => ?_) (fun _ => ?_))
  rw [← hL] at *
  unfold fitL
  generalize foldE L = F at *
  refine loopI (β := Nat × Value) (fun x => x.1 ≤ F.length ∧ ((F.take x.1).filter right).length ≤ 64) (fun x => [.own x.2 ((F.take x.1).filter right).length, .lst 4 (F.map En.av) .ro, I .i64 (x.1 : Nat)]) (fun x => [.row x.2 52 4 (((F.take x.1).filter right).map En.av) 0]) (fun x => F.length - x.1) (0, .slice none 0 0) ⟨Nat.zero_le _, by simp⟩ (Sub.nil_own 52 (by decide) _ [] [_, _]) ?_
  rintro ⟨i, v⟩ ⟨hi, h64⟩
  dsimp only at hi h64 ⊢
  have hfin : (i = F.length ∨ ((F.take i).filter right).length = 64) → (F.filter right).take 64 = (F.take i).filter right := by
    intro h
    have hs : F.filter right = (F.take i).filter right ++ (F.drop i).filter right := by rw [← List.filter_append, List.take_append_drop]
    rw [hs]
    rcases h with h | h
    · rw [h, List.drop_length, List.filter_nil, List.append_nil, List.take_of_length_le (by rw [← h]; exact h64)]
    · rw [List.take_append_of_le_length (by omega), List.take_of_length_le (by omega)]
  by_cases hlt : i < F.length
  · have hs : (F.take (i + 1)).filter right = (F.take i).filter right ++ (if right (F.getD i default) = true then [F.getD i default] else []) := by
      rw [take_succ_d hlt, List.filter_append]
      generalize F.getD i default = y
      by_cases hy : right y = true <;> simp [hy]
    by_cases hc : ((F.take i).filter right).length < 64
    · repeat' (first | with_reducible apply Stp.go | with_reducible refine imp fun _ => ?_ | (with_reducible refine hyp ?_ ?_; first | assumption | exact leftT_mem (by assumption)) | (with_reducible refine need ?_ ?_; first | trivial | omega | exact ⟨by assumption, by omega⟩ | (simp only [List.length_append, List.length_cons, List.length_nil, List.length_map, List.length_take, List.length_drop, List.length_replicate, List.length_set]; omega)) | (with_reducible refine fact ?_ ?_; first | trivial | exact ⟨rfl, rfl⟩ | kernel_rfl) | with_reducible refine choT (by assumption) ?_ | with_reducible refine choF (by assumption) ?_ | with_reducible refine choF' (by assumption) ?_ | (with_reducible refine altT ?_ ?_; first | omega | (simp only [List.length_append, List.length_cons, List.length_nil, List.length_map, List.length_take, List.length_drop, List.length_replicate, List.length_set]; omega)) | with_reducible refine altF ?_ | with_reducible refine all fun _ => ?_ | with_reducible refine both ?_ ?_ | (with_reducible refine choT ?_ ?_; omega) | (with_reducible refine choF ?_ ?_; omega) | with_reducible refine cho (fun _ => ?_) (fun _ => ?_))
      · rename_i hr w
        rw [if_pos hr] at hs
        refine again (i + 1, w) (by dsimp only; omega) ⟨by dsimp only; omega, ?_⟩ ?_
        · dsimp only
          rw [hs, List.length_append]
          simp only [List.length_cons, List.length_nil]
          omega
        · dsimp only
          rw [hs]
          exact Sub.refl _ _
      · rename_i hr
        rw [if_neg hr, List.append_nil] at hs
        refine again (i + 1, v) (by dsimp only; omega) ⟨by dsimp only; omega, ?_⟩ ?_
        · dsimp only
          rw [hs]
          exact h64
        · dsimp only
          rw [hs]
          exact Sub.refl _ _
    · rw [hfin (.inr (by omega))]
      repeat' (first | with_reducible apply Stp.go | with_reducible refine imp fun _ => ?_ | (with_reducible refine hyp ?_ ?_; first | assumption | exact leftT_mem (by assumption)) | (with_reducible refine need ?_ ?_; first | trivial | omega | exact ⟨by assumption, by omega⟩ | (simp only [List.length_append, List.length_cons, List.length_nil, List.length_map, List.length_take, List.length_drop, List.length_replicate, List.length_set]; omega)) | (with_reducible refine fact ?_ ?_; first | trivial | exact ⟨rfl, rfl⟩ | kernel_rfl) | with_reducible refine choT (by assumption) ?_ | with_reducible refine choF (by assumption) ?_ | with_reducible refine choF' (by assumption) ?_ | (with_reducible refine altT ?_ ?_; first | omega | (simp only [List.length_append, List.length_cons, List.length_nil, List.length_map, List.length_take, List.length_drop, List.length_replicate, List.length_set]; omega)) | with_reducible refine altF ?_ | with_reducible refine all fun _ => ?_ | with_reducible refine both ?_ ?_ | (with_reducible refine choT ?_ ?_; omega) | (with_reducible refine choF ?_ ?_; omega) | with_reducible refine cho (fun _ => ?_) (fun _ => ?_))
      exact ⟨_, _, _, rfl, retOwn (Sub.refl _ _), rfl, rfl⟩
  · rw [hfin (.inl (by omega))]
    repeat' (first | with_reducible apply Stp.go | with_reducible refine imp fun _ => ?_ | (with_reducible refine hyp ?_ ?_; first | assumption | exact leftT_mem (by assumption)) | (with_reducible refine need ?_ ?_; first | trivial | omega | exact ⟨by assumption, by omega⟩ | (simp only [List.length_append, List.length_cons, List.length_nil, List.length_map, List.length_take, List.length_drop, List.length_replicate, List.length_set]; omega)) | (with_reducible refine fact ?_ ?_; first | trivial | exact ⟨rfl, rfl⟩ | kernel_rfl) | with_reducible refine choT (by assumption) ?_ | with_reducible refine choF (by assumption) ?_ | with_reducible refine choF' (by assumption) ?_ | (with_reducible refine altT ?_ ?_; first | omega | (simp only [List.length_append, List.length_cons, List.length_nil, List.length_map, List.length_take, List.length_drop, List.length_replicate, List.length_set]; omega)) | with_reducible refine altF ?_ | with_reducible refine all fun _ => ?_ | with_reducible refine both ?_ ?_ | (with_reducible refine choT ?_ ?_; omega) | (with_reducible refine choF ?_ ?_; omega) | with_reducible refine cho (fun _ => ?_) (fun _ => ?_))
    exact ⟨_, _, _, rfl, retOwn (Sub.refl _ _), rfl, rfl⟩
end Go.Ab
