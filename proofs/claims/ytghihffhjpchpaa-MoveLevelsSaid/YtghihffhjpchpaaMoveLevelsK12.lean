/- The texts that this claim needs, part 12: a logic over abstract values, its steps, what the functions do. No condition of its own. -/
import Derived.Shelf.SlSortCmp.NoneTotal
import Derived.Test.YtghihffhjpchpaaMoveLevelsK11
/- slices.SortFunc at entries: from the kit's contract to a call told of abstract states. -/
set_option linter.unusedVariables false
set_option linter.unusedSimpArgs false
namespace Go.Ab
open Go.Proofs Go.Shelf Go.RowKit Go.Lib Go.Sort
theorem isNaN_walk (x : ByteArray) (W : World) : Calls Go.Proofs.Try.prog 100 #[.string x] W fun e w' => e = .returned (.bool false) ∧ w' = W := by
  go_enter Go.Proofs.Try.func100, Go.Proofs.Try.ntmps100
  go_wp2
  go_ret
  exact ⟨rfl, rfl⟩
set_option maxHeartbeats 1000000 in
theorem compare_walk (a b : List UInt8) (W : World) : Calls Go.Proofs.Try.prog 78 #[.string ⟨a.toArray⟩, .string ⟨b.toArray⟩] W fun e w' => e = .returned (.int .i64 (cmpK a b)) ∧ w' = W := by
  have h86 := isNaN_walk
  have hg : ∀ w, (binOp .gtr 9 (.string ⟨a.toArray⟩) (.string ⟨b.toArray⟩)).run Go.Proofs.Try.prog w = .ok (.bool (!(Op.bytesLess a b || decide (a = b)))) w := fun w => by simp [binOp, Op.stringOp, bdec]
  have hl : Op.bytesLess (⟨a.toArray⟩ : ByteArray).toList (⟨b.toArray⟩ : ByteArray).toList = Op.bytesLess a b := by simp
  go_enter Go.Proofs.Try.func78, Go.Proofs.Try.ntmps78
  go_wp2_with (go_at_call 100; refine (h86 _ _).mono ?_; rintro e w' ⟨rfl, rfl⟩)
  all_goals go_ret
  all_goals refine ⟨?_, rfl⟩
  all_goals simp_all [cmpK, lt]
/-- An entry's cells. -/
def enc (e : En) : List Value := [.string ⟨e.key.toArray⟩, .string ⟨e.val.toArray⟩, .bool e.del, .int .i64 e.seq]
theorem byKey_walk (x y : En) (W : World) : Calls Go.Proofs.Try.prog 52 #[.agg (enc x).toArray, .agg (enc y).toArray] W fun e w' => e = .returned (.int .i64 (cmpK x.key y.key)) ∧ ∃ q os', w' = grow (W.drewN q) os' := by
  have hcon := fun W' => compare_walk x.key y.key W'
  simp only [enc]
  generalize cmpK x.key y.key = r at hcon ⊢
  go_enter Go.Proofs.Try.func52, Go.Proofs.Try.ntmps52
  go_wp2_with (go_at_call 78; refine (hcon _).mono ?_; rintro e w' ⟨rfl, rfl⟩)
  go_ret
  exact ⟨rfl, 0, _, by rw [alloc_eq_grow, alloc_eq_grow, grow_grow]; rfl⟩
theorem ltOf_key (x y : En) : ltOf (fun x y : En => cmpK x.key y.key) x y = lt x.key y.key := by
  unfold ltOf
  cases h : lt x.key y.key with
  | true => simp [cmpK, h]
  | false => have := (cmpK_neg x.key y.key).2 h; simp; omega
theorem swo_key : SWO (ltOf fun x y : En => cmpK x.key y.key) where
  irrefl x := by rw [ltOf_key, lt_irrefl]
  trans x y z h1 h2 := by rw [ltOf_key] at *; exact lt_trans' h1 h2
  ntrans x y z h1 h2 := by
    rw [ltOf_key] at *
    cases h : lt x.key z.key with
    | false => rfl
    | true => rw [lt_of_ge h1 h] at h2; cases h2
theorem flat_enc (l : List En) : flat (l.map En.av) = (l.flatMap enc).map .val := by
  induction l with
  | nil => rfl
  | cons e l ih =>
    simp only [List.map_cons, List.flatMap_cons, List.map_append, ← ih]
    rfl
theorem flatK_enc (d : Array En) : (flatK enc 4 d).toList = d.toList.flatMap enc := by
  obtain ⟨l, rfl⟩ : ∃ l, d = List.toArray l := ⟨d.toList, by simp⟩
  have hf : ∀ l : List En, (l.flatMap enc).length = l.length * 4 := fun l => by
    induction l with
    | nil => rfl
    | cons e l ih => simp only [List.flatMap_cons, List.length_append, ih, List.length_cons, enc, List.length_nil]; omega
  have hg : ∀ (l : List En) (t : Nat), t < l.length * 4 → (l.flatMap enc)[t]? = some ((enc (l.getD (t / 4) default))[t % 4]!) := by
    intro l
    induction l with
    | nil => intro t ht; simp at ht
    | cons e l ih =>
      intro t ht
      rcases Nat.lt_or_ge t 4 with h4 | h4
      · rw [List.flatMap_cons, List.getElem?_append_left (by simpa [enc] using h4)]
        have e1 : t / 4 = 0 := by omega
        have e2 : t % 4 = t := by omega
        rw [e1, e2, List.getD_cons_zero, List.getElem!_eq_getElem?_getD, List.getElem?_eq_getElem (by simpa [enc] using h4)]
        rfl
      · rw [List.flatMap_cons, List.getElem?_append_right (by simpa [enc] using h4)]
        have e3 : (enc e).length = 4 := rfl
        obtain ⟨u, rfl⟩ : ∃ u, t = u + 4 := ⟨t - 4, by omega⟩
        have e1 : (u + 4) / 4 = u / 4 + 1 := by omega
        have e2 : (u + 4) % 4 = u % 4 := by omega
        rw [e3, Nat.add_sub_cancel, e1, e2, List.getD_cons_succ]
        exact ih u (by simp at ht; omega)
  apply List.ext_getElem?
  intro t
  rcases Nat.lt_or_ge t (l.length * 4) with h | h
  · rw [show (List.toArray l).toList = l from rfl, hg l t h]
    have hs : t < (flatK enc 4 l.toArray).size := by simpa using h
    have := get_flatK enc 4 l.toArray t (by simpa using h)
    rw [getElem!_pos _ t hs] at this
    rw [Array.getElem?_toList, Array.getElem?_eq_getElem hs, this]
    simp [List.getD_eq_getElem?_getD, Array.getElem!_eq_getD, Array.getD]
    by_cases h4 : t / 4 < l.length <;> simp [h4]
  · rw [List.getElem?_eq_none (by simpa using h), List.getElem?_eq_none (by rw [hf]; exact h)]
theorem flatMap_enc_length : ∀ l : List En, (l.flatMap enc).length = l.length * 4
  | [] => rfl
  | e :: l => by simp only [List.flatMap_cons, List.length_append, flatMap_enc_length l, List.length_cons, enc, List.length_nil]; omega
theorem enc_one (l : List En) : ∀ v ∈ l.flatMap enc, v.oneCell' = true := by
  intro v hv
  obtain ⟨e, _, h⟩ := List.mem_flatMap.1 hv
  simp only [enc, List.mem_cons, List.not_mem_nil, or_false] at h
  rcases h with rfl | rfl | rfl | rfl <;> rfl
theorem grown_grow (w : World) (os : Array Obj) : w.grownBy (grow w os) none := ⟨rfl, rfl, rfl, by simp, fun k hk _ => heap_grow_old w os hk⟩
theorem body_sort : HasBody Go.Proofs.Try.prog 51 := ⟨Go.Proofs.Try.f51, _, by kernel_rfl, rfl, by kernel_rfl⟩
theorem sort_ok (l : List En) (v : Value) (σ1 σ2 : Store) (hlen : l.length < 4611686018427387904) : ACalls Go.Proofs.Try.prog 51 [.own v l.length, .val (.func (.func 52) #[] #[])] (σ1 ++ .row v 45 4 (l.map En.av) 0 :: σ2)
    fun x σ' => ∃ l' : List En, (l'.Perm l ∧ l'.Pairwise fun a b => lt b.key a.key = false) ∧ x = .ret (.tuple []) ∧ σ' = σ1 ++ .row v 45 4 (l'.map En.av) 0 :: σ2 := by
  refine ⟨body_sort, fun R w vs hv hs => ?_⟩
  obtain ⟨hvl, hvr⟩ := hv
  match vs, hvl with
  | [x, y], _ =>
    have hx := (hvr 0 _ x rfl rfl).own_inv.1
    have hy := (hvr 1 _ y rfl rfl).val_inv
    subst hx; subst hy
    obtain ⟨h1, h2, ⟨xs, hown, hxs, hone⟩, hmx, hR⟩ := hs.ents (.row x 45 4 (l.map En.av) 0) (by simp)
    have hxs' : xs = l.flatMap enc := VRs.toVals (by rw [← flat_enc]; exact hxs)
    subst hxs'
    obtain ⟨hlx, hown⟩ := hown.plain (by decide)
    rw [List.length_map] at hlx hown
    rcases hown with ⟨rfl, h0⟩ | ⟨g, cap, cur, rfl, hg0, hg, hnc, hcap, hsz, hcur⟩
    · have hl0 : l = [] := List.length_eq_zero_iff.1 h0
      subst hl0
      refine (AnyF.slices_SortFunc_none Go.Proofs.Try.sortEn none 0 _ w).mono ?_
      rintro e w' ⟨rfl, rfl⟩
      exact ⟨.ret (.tuple []), R, _, VR.tuple' (VRs.nil R), ⟨[], ⟨List.Perm.refl _, List.Pairwise.nil⟩, rfl, rfl⟩, hs, Ext.refl _ _ _⟩
    · have hgl : g < w.heap.size := by
        rcases Nat.lt_or_ge g w.heap.size with h | h
        · exact h
        · rw [Array.getElem?_eq_none h] at hg; cases hg
      have eg : ∀ args w, (callFunc 52 args).run Go.Proofs.Try.prog w = .ok (.enter 52 args) w := enters_of Go.Proofs.Try.func52 (by kernel_rfl) rfl
      have hfk := flatK_enc l.toArray
      have hH : HoldsK enc 4 w g 0 l.toArray := by
        intro j hj
        have hj' : j < l.length * 4 := by simpa using hj
        have hc : cur.toList[j]? = (l.flatMap enc)[j]? := by
          rw [← hcur, List.getElem?_take, if_pos hj']
        have hc2 : cur[j]? = some ((flatK enc 4 l.toArray)[j]!) := by
          rw [← Array.getElem?_toList, hc, ← hfk, Array.getElem?_toList, getElem!_pos _ j hj, Array.getElem?_eq_getElem hj]
        exact ⟨by simp only [World.cell?, hg, Nat.zero_add]; simpa using hc2, by simp [World.frozen?, hg]⟩
      have hcon := AnyQ.slices_SortFunc Go.Proofs.Try.sortEn 4 Go.Proofs.Try.isAgg45 Go.Proofs.Try.sizeOf45 enc (fun _ => rfl) (fun e u hu => enc_one [e] u (by simpa using hu)) (fun x y => cmpK x.key y.key) swo_key 52 #[] g 0 cap l.toArray w eg (fun _ _ _ _ x y => byKey_walk x y _) hH hgl (by simpa using hlen)
      refine hcon.mono ?_
      rintro e w' ⟨rfl, d', n, os, hp, hso, rfl⟩
      obtain ⟨hds, _, hpm⟩ := hp
      have hds : d'.size = l.length := by simpa using hds
      have hperm : d'.toList.Perm l := by
        have h3 := hpm
        simp only [List.size_toArray, ← hds, Array.extract_size] at h3
        rw [hds, show l.length = l.toArray.size from rfl, Array.extract_size] at h3
        exact h3
      have hpw : d'.toList.Pairwise fun a b => lt b.key a.key = false := by
        rw [List.pairwise_iff_getElem]
        intro i j hi hj hij
        have := hso i j (Nat.zero_le _) hij (by simpa [← hds] using hj)
        rw [ltOf_key, getElem!_pos d' j (by simpa using hj), getElem!_pos d' i (by simpa using hi)] at this
        simpa using this
      obtain ⟨cur', hcur'⟩ : ∃ c, c = putCells id 0 (flatK enc 4 d') cur := ⟨_, rfl⟩
      have hmod : ∀ k, (putRowK enc 4 (Go.Sort.ahead w n) g 0 d').heap[k]? = if k = g then some (.cells cur' 45 (0, 0)) else w.heap[k]? := by
        intro k
        show (w.heap.modify g _)[k]? = _
        rw [Array.getElem?_modify]
        by_cases hk : k = g
        · subst hk
          rw [if_pos rfl, if_pos rfl, hg, hcur']
          rfl
        · rw [if_neg (fun h => hk h.symm), if_neg hk]
      have htake : cur'.toList.take (l.length * 4) = d'.toList.flatMap enc := by
        rw [← flatK_enc, hcur']
        apply List.ext_getElem?
        intro t
        have hfs : (flatK enc 4 d').size = l.length * 4 := by simp [hds]
        have hcs : l.length * 4 ≤ cur.size := by rw [hsz]; exact Nat.mul_le_mul_right 4 hnc
        rcases Nat.lt_or_ge t (l.length * 4) with h | h
        · rw [List.getElem?_take, if_pos h, Array.getElem?_toList, Array.getElem?_toList]
          unfold putCells
          rw [Array.getElem?_mapIdx, Array.getElem?_eq_getElem (by omega : t < cur.size), Array.getElem?_eq_getElem (by omega : t < (flatK enc 4 d').size)]
          simp only [Option.map_some, Nat.zero_le, true_and, Nat.zero_add, Nat.sub_zero, id_eq]
          rw [if_pos (by omega), getElem!_pos _ t (by omega)]
        · rw [List.getElem?_eq_none (by simp; omega), List.getElem?_eq_none (by simp; omega)]
      have hcs' : cur'.size = cap * 4 := by rw [hcur']; simp [putCells, hsz]
      have hE : EntOk R (putRowK enc 4 (Go.Sort.ahead w n) g 0 d') (.row (.slice (some ⟨g, 0, none⟩) l.length cap) 45 4 (d'.toList.map En.av) 0) := by
        refine ⟨h1, fun e he => ?_, ⟨d'.toList.flatMap enc, rowM.of ⟨?_, .inr ⟨g, cap, cur', ?_, hg0, ?_, ?_, hcap, hcs', ?_⟩⟩, ?_, enc_one _⟩, ?_, fun a x ha hb => ?_⟩
        · obtain ⟨e0, _, rfl⟩ := List.mem_map.1 he
          rfl
        · rw [flatMap_enc_length]; simp
        · simp [hds]
        · rw [hmod, if_pos rfl]
        · simpa [hds] using hnc
        · simpa [hds] using htake
        · rw [flat_enc]; exact VRs.ofVals R _
        · simpa [hds] using hmx
        · have := hR a x ha hb
          omega
      have hst := st_change (b := g) (e' := .row (.slice (some ⟨g, 0, none⟩) l.length cap) 45 4 (d'.toList.map En.av) 0) hs rfl rfl (w' := putRowK enc 4 (Go.Sort.ahead w n) g 0 d') rfl rfl rfl (by show (w.heap.modify g _).size = _; simp) (fun k hk => by rw [hmod, if_neg hk]) (fun a x ha hb => by
        have := hR a x ha (by simp [Value.ownBlock, hb])
        omega) hE
      obtain ⟨q1, q2⟩ := hst
      obtain ⟨q3, q4⟩ := st_roNew q1 (grown_grow _ os)
      exact ⟨.ret (.tuple []), _, _, VR.tuple' (VRs.nil _), ⟨d'.toList, ⟨hperm, hpw⟩, rfl, rfl⟩, q3, q2.trans q4⟩
instance sortQ {l : List En} {v : Value} {n : Nat} {σ rest : Store} {put : Ent → Store} [hr : RowAt v σ 45 4 (l.map En.av) 0 put rest] :
    EQ Go.Proofs.Try.prog 51 [.own v n, .val (.func (.func 52) #[] #[])] σ (n = l.length ∧ l.length < 4611686018427387904) (List En) (fun l' => l'.Perm l ∧ l'.Pairwise fun a b => lt b.key a.key = false) (fun _ => .tuple []) (fun l' => put (.row v 45 4 (l'.map En.av) 0)) := ⟨fun ⟨h1, h2⟩ => by
  obtain ⟨σ1, σ2, e, e2, _⟩ := hr.at_
  subst h1; subst e
  simp only [e2]
  exact sort_ok l v σ1 σ2 h2⟩
end Go.Ab

/- The code's fold. -/
set_option linter.unusedVariables false
set_option linter.unusedSimpArgs false
namespace Go.Ab
def entry_Fold.mark : Mark := ⟨fun t => false, fun t => false, fun t => false, fun t => Nat.beq t 17, fun t => Nat.beq t 40⟩
def entry_Fold.ann : Ann := ⟨fun n => bif Nat.beq n 3 then [3, 12, 13, 14] else bif Nat.beq n 11 then [8, 43] else [], fun n => none, fun n => none⟩
/-- 'marlstone/entry.Fold' -/
def entry_Fold.sh (a0 : AV) (σ : Store) (Q : AEnd → Store → Prop) : Prop :=
  aHook (eMakeMap σ) fun t11 σ =>
  Do (aBuiltin Go.Proofs.Try.prog .len #[23] [a0]) fun t13 =>
  aLoop (fun go vs σ_1 =>
    At vs 0 fun s3 => At vs 1 fun s12 => At vs 2 fun s13 => At vs 3 fun s14 => Do (aBin Go.Proofs.Try.prog .lss 3 s14 s13) fun t15 =>
    aCond t15
      (Do (aIndexAddr .slice 4 s12 s14) fun t16 =>
    Do (loadF true 4 t16) fun t17 =>
    aNewVar 45 [.val (.string ⟨#[]⟩), .val (.string ⟨#[]⟩), .val (.bool false), .val (.int .i64 0)] σ_1 fun t5 σ_2 =>
    storeA 4 t5 t17 σ_2 fun u σ_3 =>
    Do (aFieldAddr 0 1 t5) fun t20 =>
    Do (loadA false 1 t20 σ_3) fun t21 =>
    Do (lookA Go.Proofs.Try.prog 78 true s3 t21 σ_3) fun t22 =>
    Do (aExt t22 0) fun t23 =>
    Do (aExt t22 1) fun t24 =>
    aNewVar 45 [.val (.string ⟨#[]⟩), .val (.string ⟨#[]⟩), .val (.bool false), .val (.int .i64 0)] σ_3 fun t6 σ_4 =>
    storeA 4 t6 t23 σ_4 fun u_1 σ_5 =>
    Do (aUn Go.Proofs.Try.prog .not t24) fun t26 =>
    Do (aGuard t26 false (aFieldAddr 3 1 t5)) fun t28 =>
    Do (aGuard t26 false (loadA false 1 t28 σ_5)) fun t29 =>
    Do (aGuard t26 false (aFieldAddr 3 1 t6)) fun t30 =>
    Do (aGuard t26 false (loadA false 1 t30 σ_5)) fun t31 =>
    Do (aGuard t26 false (aBin Go.Proofs.Try.prog .geq 3 t29 t31)) fun t32 =>
    Do (aPick t26 (.val (.bool true)) t32) fun t33 =>
    aCond t33
      (Do (aFieldAddr 0 1 t5) fun t35 =>
      Do (loadA false 1 t35 σ_5) fun t36 =>
      Do (loadA true 4 t5 σ_5) fun t37 =>
      aHook (eMapUpd Go.Proofs.Try.prog 78 s3 t36 t37 σ_5) fun u_2 σ_6 =>
      Do (aBin Go.Proofs.Try.prog .add 3 s14 (.val (.int .i64 1))) fun t38 =>
    go [s3, s12, s13, t38] σ_6)
      (Do (aBin Go.Proofs.Try.prog .add 3 s14 (.val (.int .i64 1))) fun t38_1 =>
    go [s3, s12, s13, t38_1] σ_5))
      (Do (lenMA Go.Proofs.Try.prog 78 s3 σ_1) fun t40 =>
  aMake 45 [(.string ⟨#[]⟩), (.string ⟨#[]⟩), (.bool false), (.int .i64 0)] 4 48 (.val (.int .i64 0)) t40 σ_1 (subK fun t41 σ_7 =>
  aHook (eRange Go.Proofs.Try.prog 78 s3 σ_7) fun t43 σ_8 =>
  aLoop (fun go_1 vs_1 σ_9 =>
    At vs_1 0 fun s8 => At vs_1 1 fun s43 => aHook (eNext s43 σ_9) fun t44 σ_10 =>
    Do (aExt t44 0) fun t45 =>
    aCond t45
      (Do (entryA s43 σ_10) fun t46 =>
    Do (aExt t46 1) fun t47 =>
    aNewVar 45 [.val (.string ⟨#[]⟩), .val (.string ⟨#[]⟩), .val (.bool false), .val (.int .i64 0)] σ_10 fun t10 σ_11 =>
    storeA 4 t10 t47 σ_11 fun u_3 σ_12 =>
    Do (loadA true 4 t10 σ_12) fun t49 =>
    Do (aSlLit (mkE [.val (.string ⟨#[]⟩), .val (.string ⟨#[]⟩), .val (.bool false), .val (.int .i64 0)]) 4 1 [(0, t49)]) fun t50 =>
    aAppend 45 4 48 s8 t50 σ_12 (subK fun t51 σ_13 =>
    go_1 [t51, s43] σ_13))
      (aCall Go.Proofs.Try.prog 51 [s8, (.val (.func (.func 52) #[] #[]))] σ_10 (fun t53 σ_14 =>
  Q (.ret s8) σ_14) (fun e σ_15 => Q (.pan e) σ_15)))
    [t41, t43] σ_8)))
    [t11, a0, t13, (.val (.int .i64 0))] σ
theorem entry_Fold.eq (a0 : AV) (σ : Store) (Q : AEnd → Store → Prop) : vc (semOf Go.Proofs.Try.prog entry_Fold.mark) Go.Proofs.Try.f30.ntmps entry_Fold.ann (bodyOf Go.Proofs.Try.f30) (endK [.tmp 2] Q) (argFr [a0]) σ = entry_Fold.sh a0 σ Q := by kernel_rfl
theorem entry_Fold.go {a0 : AV} {σ : Store} {Q : AEnd → Store → Prop} (h : entry_Fold.sh a0 σ Q) : ACalls Go.Proofs.Try.prog 30 [a0] σ Q :=
  acalls_of_eq [.tmp 2] Go.Proofs.Try.func30 (by kernel_rfl) (by kernel_rfl) (by kernel_rfl) (by kernel_rfl) (entry_Fold.eq a0 σ Q) h
theorem Fold_ok (l : List En) (m : SM) (hl : l.length ≤ 1000000000) : ACalls Go.Proofs.Try.prog 30 [.lst 4 (l.map En.av) m] [] fun x σ' => ∃ v, x = .ret (.own v (foldE l).length) ∧ σ' = [.row v 45 4 ((foldE l).map En.av) 0] := by
  refine ACalls.fin (entry_Fold.go ?_)
  unfold entry_Fold.sh
  repeat' (first|with_reducible (first|apply Stp.go|refine imp fun _=>?_|(refine need ?_ ?_;first|trivial|omega|exact ⟨by assumption,by omega⟩|(simp only [zL,zM];omega))|refine choT (by assumption) ?_|refine choF (by assumption) ?_|refine choF' (by assumption) ?_|(refine altT ?_ ?_;first|omega|(simp only [zL,zM];omega))|refine altF ?_|refine all fun _=>?_|refine both ?_ ?_|(refine hyp ?_ ?_;first|assumption|exact leftT_mem (by assumption))|(refine choT ?_ ?_;omega)|(refine choF ?_ ?_;omega)|refine cho (fun _=>?_) fun _=>?_)|(with_reducible refine fact ?_ ?_;first|trivial|exact ⟨rfl,rfl⟩|kernel_rfl))
  rename_i mb
  refine loopI (β := Nat × List (Nat × List UInt8 × En) × Nat) (fun x => x.1 ≤ l.length ∧ Tbl x.2.1 x.2.2 (foldE (l.take x.1)) ∧ x.2.1.length ≤ x.1) (fun x => [.val (.map (some mb)), .lst 4 (l.map En.av) m, I .i64 (l.length : Nat), I .i64 (x.1 : Nat)])
    (fun x => [.map mb (mkM keyS En.av x.2.1) x.2.2]) (fun x => l.length - x.1) (0, [], 0) ⟨Nat.zero_le _, Tbl.nil, Nat.le_refl _⟩ (Sub.refl _ _) ?_
  rintro ⟨i, L, c⟩ ⟨hi, ht, hL⟩
  dsimp only at hi ht hL ⊢
  have hF := foldE_rises (l.take i)
  by_cases hlt : i < l.length
  · have hs := foldE_take_succ hlt
    have hset := ht.set hF (e := l.getD i default)
    have hkeep := fun x => ht.keep hF (e := l.getD i default) (x := x)
    have hsl := setT_length (l.getD i default).key (l.getD i default) c L
    rw [← hs] at hset hkeep
    repeat' (first|with_reducible (first|apply Stp.go|refine imp fun _=>?_|(refine need ?_ ?_;first|trivial|omega|exact ⟨by assumption,by omega⟩|(simp only [zL,zM];omega))|refine choT (by assumption) ?_|refine choF (by assumption) ?_|refine choF' (by assumption) ?_|(refine altT ?_ ?_;first|omega|(simp only [zL,zM];omega))|refine altF ?_|refine all fun _=>?_|refine both ?_ ?_|(refine hyp ?_ ?_;first|assumption|exact leftT_mem (by assumption))|(refine choT ?_ ?_;omega)|(refine choF ?_ ?_;omega)|refine cho (fun _=>?_) fun _=>?_)|(with_reducible refine fact ?_ ?_;first|trivial|exact ⟨rfl,rfl⟩|kernel_rfl))
    · rename_i h1 h2
      refine again (i + 1, setT (l.getD i default).key (l.getD i default) c L, bif hasT (l.getD i default).key L then c else c + 1) (by dsimp only; omega) ⟨by dsimp only; omega, hset fun x hx => by rw [hx] at h2; exact h2, by dsimp only; omega⟩ ?_
      exact subS _
    · rename_i h1 h2
      obtain ⟨x, hx⟩ := Option.isSome_iff_exists.1 h1
      rw [hx] at h2
      refine again (i + 1, L, c) (by dsimp only; omega) ⟨by dsimp only; omega, hkeep x hx h2, by dsimp only; omega⟩ ?_
      exact subS _
    · rename_i h1
      refine again (i + 1, setT (l.getD i default).key (l.getD i default) c L, bif hasT (l.getD i default).key L then c else c + 1) (by dsimp only; omega) ⟨by dsimp only; omega, hset fun x hx => by rw [hx] at h1; exact absurd rfl h1, by dsimp only; omega⟩ ?_
      exact subS _
  · have e : l.take i = l := List.take_of_length_le (by omega)
    rw [e] at ht hF
    repeat' (first|with_reducible (first|apply Stp.go|refine imp fun _=>?_|(refine need ?_ ?_;first|trivial|omega|exact ⟨by assumption,by omega⟩|(simp only [zL,zM];omega))|refine choT (by assumption) ?_|refine choF (by assumption) ?_|refine choF' (by assumption) ?_|(refine altT ?_ ?_;first|omega|(simp only [zL,zM];omega))|refine altF ?_|refine all fun _=>?_|refine both ?_ ?_|(refine hyp ?_ ?_;first|assumption|exact leftT_mem (by assumption))|(refine choT ?_ ?_;omega)|(refine choF ?_ ?_;omega)|refine cho (fun _=>?_) fun _=>?_)|(with_reducible refine fact ?_ ?_;first|trivial|exact ⟨rfl,rfl⟩|kernel_rfl))
    rename_i v0 it
    refine loopI (β := Value × List En × List Nat) (fun x => (x.2.1 ++ (leftT L x.2.2).map (·.2.2)).Perm (L.map (·.2.2))) (fun x => [.own x.1 x.2.1.length, ptrAt it 0])
      (fun x => [.iter it mb c x.2.2 c, .row x.1 45 4 (x.2.1.map En.av) 0, .map mb (mkM keyS En.av L) c]) (fun x => (leftT L x.2.2).length) (v0, [], []) ?_ (Sub.refl _ _) ?_
    · dsimp only
      rw [left_nil]
      exact List.Perm.refl _
    · rintro ⟨v, o, seen⟩ hp
      dsimp only at hp ⊢
      have hol : o.length ≤ L.length := by
        have := hp.length_eq
        simp only [List.length_append, List.length_map] at this
        omega
      repeat' (first|with_reducible (first|apply Stp.go|refine imp fun _=>?_|(refine need ?_ ?_;first|trivial|omega|exact ⟨by assumption,by omega⟩|(simp only [zL,zM];omega))|refine choT (by assumption) ?_|refine choF (by assumption) ?_|refine choF' (by assumption) ?_|(refine altT ?_ ?_;first|omega|(simp only [zL,zM];omega))|refine altF ?_|refine all fun _=>?_|refine both ?_ ?_|(refine hyp ?_ ?_;first|assumption|exact leftT_mem (by assumption))|(refine choT ?_ ?_;omega)|(refine choF ?_ ?_;omega)|refine cho (fun _=>?_) fun _=>?_)|(with_reducible refine fact ?_ ?_;first|trivial|exact ⟨rfl,rfl⟩|kernel_rfl))
      · rename_i h0 o' hq
        rw [h0, List.map_nil, List.append_nil] at hp
        have e1 : o' = foldE l := ht.sorted hF (hq.1.trans hp) hq.2
        have e2 : o.length = (foldE l).length := by rw [← e1]; exact hq.1.length_eq.symm
        subst e1
        exact ⟨_, _, _, rfl, subS _, v, by rw [e2], rfl⟩
      · rename_i x hx t w
        have hlt := left_take ht.nb hx
        refine again (w, o ++ [x.2.2], seen ++ [x.1]) ?_ ?_ ?_
        · have := hlt.length_eq
          simp only [List.length_cons] at this
          dsimp only
          omega
        · dsimp only
          rw [List.append_assoc]
          exact ((((hlt.map (·.2.2)).symm).append_left o)).trans hp
        · exact subS _
theorem Fold_pure (l : List En) (m : SM) (hl : l.length ≤ 1000000000) : aPure Go.Proofs.Try.prog 30 [.lst 4 (l.map En.av) m] (.lst 4 ((foldE l).map En.av) .ro) :=
  ACalls.fin ((Fold_ok l m hl).mono fun x τ ⟨v, e1, e2⟩ => ⟨_, _, _, e1, by rw [e2]; exact retOwn (Sub.refl _ _), rfl, rfl⟩)
instance {a : AV} {l : List En} {m : SM} [h : IsL a En.av 4 l m] : PC Go.Proofs.Try.prog 30 [a] (l.length ≤ 1000000000) (.lst 4 ((foldE l).map En.av) .ro) := ⟨fun hl => ⟨[.lst 4 (l.map En.av) m], ⟨h.sub, trivial⟩, Fold_pure l m hl⟩⟩
end Go.Ab

/- Entries that are right, folded; the rows of a list behind a merge. -/
set_option linter.unusedVariables false
set_option linter.unusedSimpArgs false
namespace Go.Ab
/-- Entries that are right, folded, at most so many. -/
def fit17 (k : Nat) (l : List En) : List En := ((foldE ((l.take 30).map (cutE 130 200))).filter right).take k
theorem fit17_fit {k : Nat} {l : List En} (hk : k ≤ 64) (h : 0 < (fit17 k l).length) : fit (fit17 k l) = true := by
  refine fit_of h (by unfold fit17; rw [List.length_take]; omega) (((foldE_rises _).sublist List.filter_sublist).sublist (List.take_sublist _ _)) fun e he => ?_
  have := List.mem_of_mem_take he
  exact (List.mem_filter.1 this).2
theorem fit17_len (k : Nat) (l : List En) : (fit17 k l).length ≤ k := by unfold fit17; rw [List.length_take]; omega
def law17_fit.mark : Mark := ⟨fun t => Nat.beq t 9 || Nat.beq t 10 || Nat.beq t 27, fun t => false, fun t => false, fun t => Nat.beq t 26 || Nat.beq t 32, fun t => false⟩
def law17_fit.ann : Ann := ⟨fun n => bif Nat.beq n 4 then [1, 5, 6, 7] else [], fun n => none, fun n => none⟩
/-- 'marlstone/marlstonelaw17.fit' -/
def law17_fit.sh (a0 a1 : AV) (σ : Store) (Q : AEnd → Store → Prop) : Prop :=
  Do (aPureC Go.Proofs.Try.prog 8 [a0, (.val (.int .i64 30))]) fun t9 =>
  Do (aPureC Go.Proofs.Try.prog 30 [t9]) fun t10 =>
  aLoop (fun go vs σ =>
    At vs 0 fun s1 => At vs 1 fun s5 => At vs 2 fun s6 => At vs 3 fun s7 => Do (aBuiltin Go.Proofs.Try.prog .len #[23] [s6]) fun t13 =>
    Do (aBin Go.Proofs.Try.prog .lss 3 s7 t13) fun t14 =>
    Do (aGuard t14 true (aIs s5)) fun t16 =>
    Do (aGuard t14 true (aBuiltin Go.Proofs.Try.prog .len #[23] [t16])) fun t17 =>
    Do (aGuard t14 true (aIs s1)) fun t18 =>
    Do (aGuard t14 true (aBin Go.Proofs.Try.prog .lss 3 t17 t18)) fun t19 =>
    Do (aPick t14 t19 (.val (.bool false))) fun t20 =>
    aCond t20
      (Do (aIndexAddr .slice 4 s6 s7) fun t25 =>
    Do (loadF true 4 t25) fun t26 =>
    Do (aPureC Go.Proofs.Try.prog 31 [t26]) fun t27 =>
    aCond t27
      (Do (aIndexAddr .slice 4 s6 s7) fun t31 =>
      Do (loadF true 4 t31) fun t32 =>
      Do (aSlLit (mkE [.val (.string ⟨#[]⟩), .val (.string ⟨#[]⟩), .val (.bool false), .val (.int .i64 0)]) 4 1 [(0, t32)]) fun t33 =>
      aAppend 45 4 48 s5 t33 σ (subK fun t34 σ_1 =>
      Do (aBin Go.Proofs.Try.prog .add 3 s7 (.val (.int .i64 1))) fun t22 =>
    go [s1, t34, s6, t22] σ_1))
      (Do (aBin Go.Proofs.Try.prog .add 3 s7 (.val (.int .i64 1))) fun t22_1 =>
    go [s1, s5, s6, t22_1] σ))
      (Q (.ret s5) σ))
    [a1, (.val (.slice none 0 0)), t10, (.val (.int .i64 0))] σ
theorem law17_fit.eq (a0 a1 : AV) (σ : Store) (Q : AEnd → Store → Prop) : vc (semOf Go.Proofs.Try.prog law17_fit.mark) Go.Proofs.Try.f14.ntmps law17_fit.ann (bodyOf Go.Proofs.Try.f14) (endK [.tmp 4] Q) (argFr [a0, a1]) σ = law17_fit.sh a0 a1 σ Q := by kernel_rfl
theorem law17_fit.go {a0 a1 : AV} {σ : Store} {Q : AEnd → Store → Prop} (h : law17_fit.sh a0 a1 σ Q) : ACalls Go.Proofs.Try.prog 14 [a0, a1] σ Q :=
  acalls_of_eq [.tmp 4] Go.Proofs.Try.func14 (by kernel_rfl) (by kernel_rfl) (by kernel_rfl) (by kernel_rfl) (law17_fit.eq a0 a1 σ Q) h
theorem fit17_ok (l : List En) (m : SM) (k : Nat) (hl : l.length ≤ 9223372036854775807) (hk : k ≤ 1000) : aPure Go.Proofs.Try.prog 14 [.lst 4 (l.map En.av) m, I .i64 (k : Nat)] (.lst 4 ((fit17 k l).map En.av) .ro) := by
  refine ACalls.fin (law17_fit.go ?_)
  unfold law17_fit.sh
  obtain ⟨L, hL⟩ : ∃ L, L = (l.take 30).map (cutE 130 200) := ⟨_, rfl⟩
  have h70 : L.length ≤ 30 := by rw [hL]; simp; omega
  have hf := foldE_length L
  repeat' (first|with_reducible (first|apply Stp.go|refine imp fun _=>?_|(refine need ?_ ?_;first|trivial|omega|exact ⟨by assumption,by omega⟩|(simp only [zL,zM];omega))|refine choT (by assumption) ?_|refine choF (by assumption) ?_|refine choF' (by assumption) ?_|(refine altT ?_ ?_;first|omega|(simp only [zL,zM];omega))|refine altF ?_|refine all fun _=>?_|refine both ?_ ?_|(refine choT ?_ ?_;omega)|(refine choF ?_ ?_;omega)|refine cho (fun _=>?_) fun _=>?_)|(with_reducible refine fact ?_ ?_;first|trivial|exact ⟨rfl,rfl⟩|kernel_rfl))
  unfold fit17
  rw [← hL] at *
  generalize foldE L = F at *
  refine loopI (β := Nat × Value) (fun x => x.1 ≤ F.length ∧ ((F.take x.1).filter right).length ≤ k) (fun x => [I .i64 (k : Nat), .own x.2 ((F.take x.1).filter right).length, .lst 4 (F.map En.av) .ro, I .i64 (x.1 : Nat)]) (fun x => [.row x.2 45 4 (((F.take x.1).filter right).map En.av) 0]) (fun x => F.length - x.1) (0, .slice none 0 0) ⟨Nat.zero_le _, by simp⟩ (Sub.nil_own 45 (by decide) _ [_] [_, _]) ?_
  rintro ⟨i, v⟩ ⟨hi, h64⟩
  dsimp only at hi h64 ⊢
  have hfin : (i = F.length ∨ ((F.take i).filter right).length = k) → (F.filter right).take k = (F.take i).filter right := by
    intro h
    have hs : F.filter right = (F.take i).filter right ++ (F.drop i).filter right := by rw [← List.filter_append, List.take_append_drop]
    rw [hs]
    rcases h with h | h
    · rw [h, List.drop_length, List.filter_nil, List.append_nil, List.take_of_length_le (by rw [← h]; exact h64)]
    · rw [List.take_append_of_le_length (by omega), List.take_of_length_le (by omega)]
  by_cases hlt : i < F.length
  · have hs : (F.take (i + 1)).filter right = (F.take i).filter right ++ (if right (F.getD i default) = true then [F.getD i default] else []) := by
      rw [take_succ_d hlt, List.filter_append]
      generalize F.getD i default = y
      by_cases hy : right y = true <;> simp [hy]
    by_cases hc : ((F.take i).filter right).length < k
    · repeat' (first|with_reducible (first|apply Stp.go|refine imp fun _=>?_|(refine need ?_ ?_;first|trivial|omega|exact ⟨by assumption,by omega⟩|(simp only [zL,zM];omega))|refine choT (by assumption) ?_|refine choF (by assumption) ?_|refine choF' (by assumption) ?_|(refine altT ?_ ?_;first|omega|(simp only [zL,zM];omega))|refine altF ?_|refine all fun _=>?_|refine both ?_ ?_|(refine choT ?_ ?_;omega)|(refine choF ?_ ?_;omega)|refine cho (fun _=>?_) fun _=>?_)|(with_reducible refine fact ?_ ?_;first|trivial|exact ⟨rfl,rfl⟩|kernel_rfl))
      · rename_i hr w
        rw [if_pos hr] at hs
        refine again (i + 1, w) (by dsimp only; omega) ⟨by dsimp only; omega, ?_⟩ ?_
        · dsimp only
          rw [hs, List.length_append]
          simp only [List.length_cons, List.length_nil]
          omega
        · dsimp only
          rw [hs]
          exact Sub.refl _ _
      · rename_i hr
        rw [if_neg hr, List.append_nil] at hs
        refine again (i + 1, v) (by dsimp only; omega) ⟨by dsimp only; omega, ?_⟩ ?_
        · dsimp only
          rw [hs]
          exact h64
        · dsimp only
          rw [hs]
          exact Sub.refl _ _
    · rw [hfin (.inr (by omega))]
      repeat' (first|with_reducible (first|apply Stp.go|refine imp fun _=>?_|(refine need ?_ ?_;first|trivial|omega|exact ⟨by assumption,by omega⟩|(simp only [zL,zM];omega))|refine choT (by assumption) ?_|refine choF (by assumption) ?_|refine choF' (by assumption) ?_|(refine altT ?_ ?_;first|omega|(simp only [zL,zM];omega))|refine altF ?_|refine all fun _=>?_|refine both ?_ ?_|(refine choT ?_ ?_;omega)|(refine choF ?_ ?_;omega)|refine cho (fun _=>?_) fun _=>?_)|(with_reducible refine fact ?_ ?_;first|trivial|exact ⟨rfl,rfl⟩|kernel_rfl))
      exact ⟨_, _, _, rfl, retOwn (Sub.refl _ _), rfl, rfl⟩
  · rw [hfin (.inl (by omega))]
    repeat' (first|with_reducible (first|apply Stp.go|refine imp fun _=>?_|(refine need ?_ ?_;first|trivial|omega|exact ⟨by assumption,by omega⟩|(simp only [zL,zM];omega))|refine choT (by assumption) ?_|refine choF (by assumption) ?_|refine choF' (by assumption) ?_|(refine altT ?_ ?_;first|omega|(simp only [zL,zM];omega))|refine altF ?_|refine all fun _=>?_|refine both ?_ ?_|(refine choT ?_ ?_;omega)|(refine choF ?_ ?_;omega)|refine cho (fun _=>?_) fun _=>?_)|(with_reducible refine fact ?_ ?_;first|trivial|exact ⟨rfl,rfl⟩|kernel_rfl))
    exact ⟨_, _, _, rfl, retOwn (Sub.refl _ _), rfl, rfl⟩
instance {a : AV} {l : List En} {m : SM} {k : Nat} {x : Int} [h : IsL a En.av 4 l m] [hk : NatOf x k] : PC Go.Proofs.Try.prog 14 [a, .val (.int .i64 x)] (l.length ≤ 9223372036854775807 ∧ k ≤ 1000) (.lst 4 ((fit17 k l).map En.av) .ro) := ⟨fun hl => by rw [hk.eq]; exact ⟨[.lst 4 (l.map En.av) m, I .i64 (k : Nat)], ⟨h.sub, SubVs.refl _⟩, fit17_ok l m k hl.1 hl.2⟩⟩
def law17_placed.mark : Mark := ⟨fun t => false, fun t => false, fun t => false, fun t => Nat.beq t 39 || Nat.beq t 104, fun t => false⟩
def law17_placed.ann : Ann := ⟨fun n => bif Nat.beq n 4 then [0, 1, 2, 3, 4, 5, 13, 14, 15] else bif Nat.beq n 8 then [0, 1, 2, 3, 4, 5, 13, 14, 15, 16, 17] else bif Nat.beq n 18 then [3, 4, 5, 13, 14, 18, 19, 20, 21] else [], fun n => none, fun n => none⟩
/-- 'marlstone/marlstonelaw17.placed' -/
def law17_placed.sh (a0 a1 a2 a3 a4 a5 : AV) (σ : Store) (Q : AEnd → Store → Prop) : Prop :=
  aLoop (fun go vs σ =>
    At vs 0 fun s0 => At vs 1 fun s1 => At vs 2 fun s2 => At vs 3 fun s3 => At vs 4 fun s4 => At vs 5 fun s5 => At vs 6 fun s13 => At vs 7 fun s14 => At vs 8 fun s15 => Do (aBuiltin Go.Proofs.Try.prog .len #[22] [s0]) fun t24 =>
    Do (aBin Go.Proofs.Try.prog .lss 3 s15 t24) fun t25 =>
    aCond t25
      (aLoop (fun go_1 vs_1 σ_1 =>
      At vs_1 0 fun s0_1 => At vs_1 1 fun s1_1 => At vs_1 2 fun s2_1 => At vs_1 3 fun s3_1 => At vs_1 4 fun s4_1 => At vs_1 5 fun s5_1 => At vs_1 6 fun s13_1 => At vs_1 7 fun s14_1 => At vs_1 8 fun s15_1 => At vs_1 9 fun s16 => At vs_1 10 fun s17 => Do (aBuiltin Go.Proofs.Try.prog .len #[34] [s2_1]) fun t30 =>
      Do (aBin Go.Proofs.Try.prog .lss 3 s17 t30) fun t31 =>
      aCond t31
        (Do (aGuard s16 false (aIs s2_1)) fun t36 =>
      Do (aGuard s16 false (aIs s17)) fun t37 =>
      Do (aGuard s16 false (aIndexAddr .slice 1 t36 t37)) fun t38 =>
      Do (aGuard s16 false (loadF false 1 t38)) fun t39 =>
      Do (aGuard s16 false (aIs s15_1)) fun t40 =>
      Do (aGuard s16 false (aBin Go.Proofs.Try.prog .eql 3 t39 t40)) fun t41 =>
      Do (aPick s16 (.val (.bool true)) t41) fun t42 =>
      Do (aBin Go.Proofs.Try.prog .add 3 s17 (.val (.int .i64 1))) fun t33 =>
      go_1 [s0_1, s1_1, s2_1, s3_1, s4_1, s5_1, s13_1, s14_1, s15_1, t42, t33] σ_1)
        (Do (aUn Go.Proofs.Try.prog .not s16) fun t44 =>
    Do (aGuard t44 true (aIs s15_1)) fun t46 =>
    Do (aGuard t44 true (aIs s1_1)) fun t47 =>
    Do (aGuard t44 true (aBuiltin Go.Proofs.Try.prog .len #[41] [t47])) fun t48 =>
    Do (aGuard t44 true (aBin Go.Proofs.Try.prog .lss 3 t46 t48)) fun t49 =>
    Do (aPick t44 t49 (.val (.bool false))) fun t50 =>
    aCond t50
      (Do (aIndexAddr .slice 1 s1_1 s15_1) fun t54 =>
      Do (loadA false 1 t54 σ_1) fun t55 =>
      Do (aSlLit (mkE [.val (.slice none 0 0)]) 1 1 [(0, t55)]) fun t56 =>
      aAppend 23 1 24 s13_1 t56 σ_1 (subK fun t57 σ_2 =>
      Do (aIndexAddr .slice 36 s0_1 s15_1) fun t61 =>
      Do (loadA true 36 t61 σ_2) fun t62 =>
      Do (aSlLit (mkE [.val (.int .i64 0), .val (.int .i64 0), .val (.int .u8 0), .val (.int .u8 0), .val (.int .u8 0), .val (.int .u8 0), .val (.int .u8 0), .val (.int .u8 0), .val (.int .u8 0), .val (.int .u8 0), .val (.int .u8 0), .val (.int .u8 0), .val (.int .u8 0), .val (.int .u8 0), .val (.int .u8 0), .val (.int .u8 0), .val (.int .u8 0), .val (.int .u8 0), .val (.int .u8 0), .val (.int .u8 0), .val (.int .u8 0), .val (.int .u8 0), .val (.int .u8 0), .val (.int .u8 0), .val (.int .u8 0), .val (.int .u8 0), .val (.int .u8 0), .val (.int .u8 0), .val (.int .u8 0), .val (.int .u8 0), .val (.int .u8 0), .val (.int .u8 0), .val (.int .u8 0), .val (.int .u8 0), .val (.string ⟨#[]⟩), .val (.string ⟨#[]⟩)]) 36 1 [(0, t62)]) fun t63 =>
      aAppend 39 36 80 s14_1 t63 σ_2 (subK fun t64 σ_3 =>
      Do (aBin Go.Proofs.Try.prog .add 3 s15_1 (.val (.int .i64 1))) fun t27 =>
    go [s0_1, s1_1, s2_1, s3_1, s4_1, s5_1, t57, t64, t27] σ_3)))
      (Do (aBin Go.Proofs.Try.prog .add 3 s15_1 (.val (.int .i64 1))) fun t27_1 =>
    go [s0_1, s1_1, s2_1, s3_1, s4_1, s5_1, s13_1, s14_1, t27_1] σ_1)))
      [s0, s1, s2, s3, s4, s5, s13, s14, s15, (.val (.bool false)), (.val (.int .i64 0))] σ)
      (aLoop (fun go_2 vs_2 σ_4 =>
    At vs_2 0 fun s3_2 => At vs_2 1 fun s4_2 => At vs_2 2 fun s5_2 => At vs_2 3 fun s13_2 => At vs_2 4 fun s14_2 => At vs_2 5 fun s18 => At vs_2 6 fun s19 => At vs_2 7 fun s20 => At vs_2 8 fun s21 => Do (aBuiltin Go.Proofs.Try.prog .len #[22] [s5_2]) fun t67 =>
    Do (aBin Go.Proofs.Try.prog .lss 3 s21 t67) fun t68 =>
    aCond t68
      (Do (aBuiltin Go.Proofs.Try.prog .len #[41] [s4_2]) fun t73 =>
    Do (aBin Go.Proofs.Try.prog .lss 3 s20 t73) fun t74 =>
    Do (aGuard t74 true (aIs s5_2)) fun t76 =>
    Do (aGuard t74 true (aIs s21)) fun t77 =>
    Do (aGuard t74 true (aIndexAddr .slice 36 t76 t77)) fun t78 =>
    Do (aGuard t74 true (aFieldAddr 0 1 t78)) fun t79 =>
    Do (aGuard t74 true (loadA false 1 t79 σ_4)) fun t80 =>
    Do (aGuard t74 true (aIs s3_2)) fun t81 =>
    Do (aGuard t74 true (aBin Go.Proofs.Try.prog .eql 3 t80 t81)) fun t82 =>
    Do (aPick t74 t82 (.val (.bool false))) fun t83 =>
    Do (aGuard t83 true (aIs s4_2)) fun t85 =>
    Do (aGuard t83 true (aIs s20)) fun t86 =>
    Do (aGuard t83 true (aIndexAddr .slice 1 t85 t86)) fun t87 =>
    Do (aGuard t83 true (loadA false 1 t87 σ_4)) fun t88 =>
    Do (aGuard t83 true (aBuiltin Go.Proofs.Try.prog .len #[23] [t88])) fun t89 =>
    Do (aGuard t83 true (aBin Go.Proofs.Try.prog .gtr 3 t89 (.val (.int .i64 0)))) fun t90 =>
    Do (aPick t83 t90 (.val (.bool false))) fun t91 =>
    Do (aGuard t91 true (aIs s5_2)) fun t93 =>
    Do (aGuard t91 true (aIs s21)) fun t94 =>
    Do (aGuard t91 true (aIndexAddr .slice 36 t93 t94)) fun t95 =>
    Do (aGuard t91 true (aFieldAddr 34 1 t95)) fun t96 =>
    Do (aGuard t91 true (loadA false 1 t96 σ_4)) fun t97 =>
    Do (aGuard t91 true (aIs s4_2)) fun t98 =>
    Do (aGuard t91 true (aIs s20)) fun t99 =>
    Do (aGuard t91 true (aIndexAddr .slice 1 t98 t99)) fun t100 =>
    Do (aGuard t91 true (loadA false 1 t100 σ_4)) fun t101 =>
    Do (aGuard t91 true (aIndexAddr .slice 4 t101 (.val (.int .i64 0)))) fun t102 =>
    Do (aGuard t91 true (aFieldAddr 0 1 t102)) fun t103 =>
    Do (aGuard t91 true (loadF false 1 t103)) fun t104 =>
    Do (aGuard t91 true (aBin Go.Proofs.Try.prog .eql 9 t97 t104)) fun t105 =>
    Do (aPick t91 t105 (.val (.bool false))) fun t106 =>
    Do (aGuard t106 true (aIs s19)) fun t108 =>
    Do (aGuard t106 true (aIs s14_2)) fun t109 =>
    Do (aGuard t106 true (aBuiltin Go.Proofs.Try.prog .len #[22] [t109])) fun t110 =>
    Do (aGuard t106 true (aBin Go.Proofs.Try.prog .geq 3 t108 t110)) fun t111 =>
    Do (aGuard t106 true (aIs t111)) fun t112 =>
    Do (aGuard t112 false (aIs s5_2)) fun t113 =>
    Do (aGuard t112 false (aIs s21)) fun t114 =>
    Do (aGuard t112 false (aIndexAddr .slice 36 t113 t114)) fun t115 =>
    Do (aGuard t112 false (loadA true 36 t115 σ_4)) fun t116 =>
    Do (aGuard t112 false (aIs s14_2)) fun t117 =>
    Do (aGuard t112 false (aIs s19)) fun t118 =>
    Do (aGuard t112 false (aIndexAddr .slice 36 t117 t118)) fun t119 =>
    Do (aGuard t112 false (loadA true 36 t119 σ_4)) fun t120 =>
    Do (aGuard t112 false (aBin Go.Proofs.Try.prog .neq 39 t116 t120)) fun t121 =>
    Do (aGuard t106 true (aPick t112 (.val (.bool true)) t121)) fun t122 =>
    Do (aPick t106 t122 (.val (.bool false))) fun t123 =>
    aCond t123
      (Do (aIndexAddr .slice 1 s4_2 s20) fun t127 =>
      Do (loadA false 1 t127 σ_4) fun t128 =>
      Do (aSlLit (mkE [.val (.slice none 0 0)]) 1 1 [(0, t128)]) fun t129 =>
      aAppend 23 1 24 s18 t129 σ_4 (subK fun t130 σ_5 =>
      Do (aBin Go.Proofs.Try.prog .add 3 s20 (.val (.int .i64 1))) fun t132 =>
      Do (aBin Go.Proofs.Try.prog .add 3 s21 (.val (.int .i64 1))) fun t70 =>
    go_2 [s3_2, s4_2, s5_2, s13_2, s14_2, t130, s19, t132, t70] σ_5))
      (Do (aBuiltin Go.Proofs.Try.prog .len #[41] [s13_2]) fun t135 =>
      Do (aBin Go.Proofs.Try.prog .lss 3 s19 t135) fun t136 =>
      aCond t136
        (Do (aIndexAddr .slice 1 s13_2 s19) fun t140 =>
        Do (loadA false 1 t140 σ_4) fun t141 =>
        Do (aSlLit (mkE [.val (.slice none 0 0)]) 1 1 [(0, t141)]) fun t142 =>
        aAppend 23 1 24 s18 t142 σ_4 (subK fun t143 σ_6 =>
        Do (aBin Go.Proofs.Try.prog .add 3 s19 (.val (.int .i64 1))) fun t145 =>
        Do (aBin Go.Proofs.Try.prog .add 3 s21 (.val (.int .i64 1))) fun t70_1 =>
    go_2 [s3_2, s4_2, s5_2, s13_2, s14_2, t143, t145, s20, t70_1] σ_6))
        (Do (aBin Go.Proofs.Try.prog .add 3 s21 (.val (.int .i64 1))) fun t70_2 =>
    go_2 [s3_2, s4_2, s5_2, s13_2, s14_2, s18, s19, s20, t70_2] σ_4)))
      (Q (.ret s18) σ_4))
    [s3, s4, s5, s13, s14, (.val (.slice none 0 0)), (.val (.int .i64 0)), (.val (.int .i64 0)), (.val (.int .i64 0))] σ))
    [a0, a1, a2, a3, a4, a5, (.val (.slice none 0 0)), (.val (.slice none 0 0)), (.val (.int .i64 0))] σ
theorem law17_placed.eq (a0 a1 a2 a3 a4 a5 : AV) (σ : Store) (Q : AEnd → Store → Prop) : vc (semOf Go.Proofs.Try.prog law17_placed.mark) Go.Proofs.Try.f33.ntmps law17_placed.ann (bodyOf Go.Proofs.Try.f33) (endK [.tmp 12] Q) (argFr [a0, a1, a2, a3, a4, a5]) σ = law17_placed.sh a0 a1 a2 a3 a4 a5 σ Q := by kernel_rfl
theorem law17_placed.go {a0 a1 a2 a3 a4 a5 : AV} {σ : Store} {Q : AEnd → Store → Prop} (h : law17_placed.sh a0 a1 a2 a3 a4 a5 σ Q) : ACalls Go.Proofs.Try.prog 33 [a0, a1, a2, a3, a4, a5] σ Q :=
  acalls_of_eq [.tmp 12] Go.Proofs.Try.func33 (by kernel_rfl) (by kernel_rfl) (by kernel_rfl) (by kernel_rfl) (law17_placed.eq a0 a1 a2 a3 a4 a5 σ Q) h
theorem stayR_nat (l : List (List En)) (ins : List Int) (k : Nat) : (stayR l ins k).length ≤ k := by
  unfold stayR
  rw [List.length_map]
  exact Nat.le_trans (List.length_filter_le _ _) (by rw [List.length_range]; exact Nat.le_refl _)
instance lenEn {P : Program} {t : TypeId} {l : List En} {K : AV → Prop} [h : SlT P t] : Stp (Do (aBuiltin P .len #[t] [enL l]) K) (K (.val (.int .i64 ((l.length : Nat) : Int)))) :=
  inferInstanceAs (Stp (Do (aBuiltin P .len #[t] [.lst 4 (l.map En.av) .ro]) K) _)
instance ixEn {l : List En} {K : AV → Prop} {x : Int} {b : Nat} {kk : IntKind} [h : NatOf x b] : Stp (Do (aIndexAddr .slice 4 (enL l) (.val (.int kk x))) K) (Need (b < l.length) (K (.rptr (En.cs (l.getD b default))))) :=
  inferInstanceAs (Stp (Do (aIndexAddr .slice 4 (.lst 4 (l.map En.av) .ro) (.val (.int kk x))) K) _)
theorem drop_getD {α : Type} [Inhabited α] (l : List α) (i : Nat) : (l.drop i).getD 0 default = l.getD i default := by
  simp [List.getD_eq_getElem?_getD, List.getElem?_drop]
/-- Whether what stands next is the next part, told by places. -/
theorem isPart_iff {to : Int} {x : TabR} {T : List TabR} {P : List (List En)} {a b : Nat} : isPart to x (T.drop a) (P.drop b) = true ↔ b < P.length ∧ x.lev = to ∧ 0 < (P.getD b default).length ∧ x.fst = ((P.getD b default).getD 0 default).key ∧ (T.length ≤ a ∨ ¬ x = T.getD a default) := by
  unfold isPart
  rw [drop_getD, drop_getD]
  simp only [Bool.and_eq_true, Bool.or_eq_true, decide_eq_true_eq, Bool.not_eq_true', decide_eq_false_iff_not, List.length_drop]
  constructor
  · rintro ⟨h1, h2, h3, h4, h5⟩
    exact ⟨by omega, h2, h3, h4, h5.imp (by omega) id⟩
  · rintro ⟨h1, h2, h3, h4, h5⟩
    exact ⟨by omega, h2, h3, h4, h5.imp (by omega) id⟩
theorem placed_ok (l : List TabR) (rows : List (List En)) (J : List Int) (to : Nat) (P : List (List En)) (nx : List TabR) (hr : rows.length = l.length) (hl : l.length ≤ 100000) (hi : J.length ≤ 100000) (hP : P.length ≤ 100000) (hn : nx.length ≤ 100000) (hPl : ∀ p ∈ P, p.length ≤ 100000) :
    aPure Go.Proofs.Try.prog 33 [.lst 36 (l.map tbF) .ro, .lst 1 (rows.map enL) .ro, .lst 1 (J.map it) .ro, I .i64 (to : Nat), .lst 1 (P.map enL) .ro, .lst 36 (nx.map tbF) .ro]
      (.lst 1 ((placedF (to : Nat) nx (stayT l J l.length) (stayR rows J l.length) P).map enL) .ro) := by
  refine ACalls.fin (law17_placed.go ?_)
  unfold law17_placed.sh
  repeat' (first|with_reducible (first|apply Stp.go|refine imp fun _=>?_|(refine need ?_ ?_;first|trivial|omega|exact ⟨by assumption,by omega⟩|(simp only [zL,zM];omega))|refine choT (by assumption) ?_|refine choF (by assumption) ?_|refine choF' (by assumption) ?_|(refine altT ?_ ?_;first|omega|(simp only [zL,zM];omega))|refine altF ?_|refine all fun _=>?_|refine both ?_ ?_|(refine choT ?_ ?_;omega)|(refine choF ?_ ?_;omega)|refine cho (fun _=>?_) fun _=>?_)|(with_reducible refine fact ?_ ?_;first|trivial|exact ⟨rfl,rfl⟩|kernel_rfl))
  refine loopI (β := Nat × Value × Value) (fun x => x.1 ≤ l.length)
    (fun x => [.lst 36 (l.map tbF) .ro, .lst 1 (rows.map enL) .ro, .lst 1 (J.map it) .ro, I .i64 (to : Nat), .lst 1 (P.map enL) .ro, .lst 36 (nx.map tbF) .ro, .own x.2.1 (stayR rows J x.1).length, .own x.2.2 (stayT l J x.1).length, I .i64 (x.1 : Nat)])
    (fun x => [.row x.2.2 TbE 36 ((stayT l J x.1).map tbF) 0, .row x.2.1 EsT 1 ((stayR rows J x.1).map enL) 0]) (fun x => l.length - x.1) (0, .slice none 0 0, .slice none 0 0) (Nat.zero_le _)
    ((Sub.nil_own EsT (sz := 1) (by decide) _ [_, _, _, _, _, _] [_, _]).trans (Sub.nil_own TbE (sz := 36) (by decide) _ [_, _, _, _, _, _, _] [_])) ?_
  rintro ⟨i, v, w⟩ h1
  dsimp only at h1 ⊢
  have hsi := stayT_len l J i
  have hri := stayR_nat rows J i
  by_cases hlt : i < l.length
  · have hs := stayT_succ l J i
    have hs2 := stayR_succ rows J i
    repeat' (first|with_reducible (first|apply Stp.go|refine imp fun _=>?_|(refine need ?_ ?_;first|trivial|omega|exact ⟨by assumption,by omega⟩|(simp only [zL,zM];omega))|refine choT (by assumption) ?_|refine choF (by assumption) ?_|refine choF' (by assumption) ?_|(refine altT ?_ ?_;first|omega|(simp only [zL,zM];omega))|refine altF ?_|refine all fun _=>?_|refine both ?_ ?_|(refine choT ?_ ?_;omega)|(refine choF ?_ ?_;omega)|refine cho (fun _=>?_) fun _=>?_)|(with_reducible refine fact ?_ ?_;first|trivial|exact ⟨rfl,rfl⟩|kernel_rfl))
    refine loopI (β := Nat) (fun k => k ≤ J.length)
      (fun k => [.lst 36 (l.map tbF) .ro, .lst 1 (rows.map enL) .ro, .lst 1 (J.map it) .ro, I .i64 (to : Nat), .lst 1 (P.map enL) .ro, .lst 36 (nx.map tbF) .ro, .own v (stayR rows J i).length, .own w (stayT l J i).length, I .i64 (i : Nat), B (decide ((i : Int) ∈ J.take k)), I .i64 (k : Nat)])
      (fun _ => [.row w TbE 36 ((stayT l J i).map tbF) 0, .row v EsT 1 ((stayR rows J i).map enL) 0]) (fun k => J.length - k) 0 (Nat.zero_le _) (Sub.refl _ _) ?_
    intro k hk
    by_cases hkl : k < J.length
    · have hst : (i : Int) ∈ J.take (k + 1) ↔ ((i : Int) ∈ J.take k ∨ J.getD k default = i) := by
        rw [take_succ_d hkl, List.mem_append, List.mem_singleton]
        exact or_congr Iff.rfl eq_comm
      by_cases hg : (i : Int) ∈ J.take k
      · rw [decide_eq_true hg]
        repeat' (first|with_reducible (first|apply Stp.go|refine imp fun _=>?_|(refine need ?_ ?_;first|trivial|omega|exact ⟨by assumption,by omega⟩|(simp only [zL,zM];omega))|refine choT (by assumption) ?_|refine choF (by assumption) ?_|refine choF' (by assumption) ?_|(refine altT ?_ ?_;first|omega|(simp only [zL,zM];omega))|refine altF ?_|refine all fun _=>?_|refine both ?_ ?_|(refine choT ?_ ?_;omega)|(refine choF ?_ ?_;omega)|refine cho (fun _=>?_) fun _=>?_)|(with_reducible refine fact ?_ ?_;first|trivial|exact ⟨rfl,rfl⟩|kernel_rfl))
        exact again (k + 1) (by omega) (by omega) (by rw [decide_eq_true (hst.2 (.inl hg))]; exact Sub.refl _ _)
      · rw [decide_eq_false hg]
        have hff : ¬ (false : Bool) = true := by decide
        have he : decide ((i : Int) ∈ J.take (k + 1)) = decide (J.getD k default = (i : Int)) := by
          rw [Bool.eq_iff_iff, decide_eq_true_eq, decide_eq_true_eq, hst]
          exact ⟨fun h => h.resolve_left hg, .inr⟩
        repeat' (first|with_reducible (first|apply Stp.go|refine imp fun _=>?_|(refine need ?_ ?_;first|trivial|omega|exact ⟨by assumption,by omega⟩|(simp only [zL,zM];omega))|refine choT (by assumption) ?_|refine choF (by assumption) ?_|refine choF' (by assumption) ?_|(refine altT ?_ ?_;first|omega|(simp only [zL,zM];omega))|refine altF ?_|refine all fun _=>?_|refine both ?_ ?_|(refine choT ?_ ?_;omega)|(refine choF ?_ ?_;omega)|refine cho (fun _=>?_) fun _=>?_)|(with_reducible refine fact ?_ ?_;first|trivial|exact ⟨rfl,rfl⟩|kernel_rfl))
        exact again (k + 1) (by omega) (by omega) (by rw [he]; exact Sub.refl _ _)
    · have ek : k = J.length := by omega
      subst ek
      rw [List.take_length]
      by_cases hc : (i : Int) ∈ J
      · rw [decide_eq_true hc]
        rw [if_pos hc, List.append_nil] at hs hs2
        have htt : (true : Bool) = true := rfl
        repeat' (first|with_reducible (first|apply Stp.go|refine imp fun _=>?_|(refine need ?_ ?_;first|trivial|omega|exact ⟨by assumption,by omega⟩|(simp only [zL,zM];omega))|refine choT (by assumption) ?_|refine choF (by assumption) ?_|refine choF' (by assumption) ?_|(refine altT ?_ ?_;first|omega|(simp only [zL,zM];omega))|refine altF ?_|refine all fun _=>?_|refine both ?_ ?_|(refine choT ?_ ?_;omega)|(refine choF ?_ ?_;omega)|refine cho (fun _=>?_) fun _=>?_)|(with_reducible refine fact ?_ ?_;first|trivial|exact ⟨rfl,rfl⟩|kernel_rfl))
        exact again (i + 1, v, w) (by dsimp only; omega) (by dsimp only; omega) (by dsimp only; rw [hs, hs2]; exact Sub.refl _ _)
      · rw [decide_eq_false hc]
        rw [if_neg hc] at hs hs2
        have hff : ¬ (false : Bool) = true := by decide
        repeat' (first|with_reducible (first|apply Stp.go|refine imp fun _=>?_|(refine need ?_ ?_;first|trivial|omega|exact ⟨by assumption,by omega⟩|(simp only [zL,zM];omega))|refine choT (by assumption) ?_|refine choF (by assumption) ?_|refine choF' (by assumption) ?_|(refine altT ?_ ?_;first|omega|(simp only [zL,zM];omega))|refine altF ?_|refine all fun _=>?_|refine both ?_ ?_|(refine choT ?_ ?_;omega)|(refine choF ?_ ?_;omega)|refine cho (fun _=>?_) fun _=>?_)|(with_reducible refine fact ?_ ?_;first|trivial|exact ⟨rfl,rfl⟩|kernel_rfl))
        rename_i v2 w2
        exact again (i + 1, v2, w2) (by dsimp only; omega) (by dsimp only; omega) (by dsimp only; rw [hs, hs2]; exact Sub.refl _ _)
  · have e : i = l.length := by omega
    subst e
    have hsr := stayR_len l rows J l.length
    generalize stayT l J l.length = T at *
    generalize stayR rows J l.length = S at *
    repeat' (first|with_reducible (first|apply Stp.go|refine imp fun _=>?_|(refine need ?_ ?_;first|trivial|omega|exact ⟨by assumption,by omega⟩|(simp only [zL,zM];omega))|refine choT (by assumption) ?_|refine choF (by assumption) ?_|refine choF' (by assumption) ?_|(refine altT ?_ ?_;first|omega|(simp only [zL,zM];omega))|refine altF ?_|refine all fun _=>?_|refine both ?_ ?_|(refine choT ?_ ?_;omega)|(refine choF ?_ ?_;omega)|refine cho (fun _=>?_) fun _=>?_)|(with_reducible refine fact ?_ ?_;first|trivial|exact ⟨rfl,rfl⟩|kernel_rfl))
    refine loopI (β := Nat × Nat × Nat × Value × List (List En)) (fun x => x.1 ≤ nx.length ∧ x.2.1 ≤ T.length ∧ x.2.2.1 ≤ P.length ∧ x.2.2.2.2.length ≤ x.1 ∧ x.2.2.2.2 ++ placedF (to : Nat) (nx.drop x.1) (T.drop x.2.1) (S.drop x.2.1) (P.drop x.2.2.1) = placedF (to : Nat) nx T S P)
      (fun x => [I .i64 (to : Nat), .lst 1 (P.map enL) .ro, .lst 36 (nx.map tbF) .ro, .own v S.length, .own w T.length, .own x.2.2.2.1 x.2.2.2.2.length, I .i64 (x.2.1 : Nat), I .i64 (x.2.2.1 : Nat), I .i64 (x.1 : Nat)])
      (fun x => [.row x.2.2.2.1 EsT 1 (x.2.2.2.2.map enL) 0, .row w TbE 36 (T.map tbF) 0, .row v EsT 1 (S.map enL) 0]) (fun x => nx.length - x.1) (0, 0, 0, .slice none 0 0, []) ⟨Nat.zero_le _, Nat.zero_le _, Nat.zero_le _, Nat.zero_le _, rfl⟩ (Sub.nil_own EsT (sz := 1) (by decide) _ [_, _, _, _, _] [_, _, _]) ?_
    rintro ⟨i, a, b, u, out⟩ ⟨q1, q2, q3, q4, q5⟩
    dsimp only at q1 q2 q3 q4 q5 ⊢
    by_cases hin : i < nx.length
    · rw [drop_cons_d hin] at q5
      generalize hx : nx.getD i default = x at *
      by_cases hip : isPart (to : Nat) x (T.drop a) (P.drop b) = true
      · have hst : placedF (to : Nat) (x :: nx.drop (i + 1)) (T.drop a) (S.drop a) (P.drop b) = P.getD b default :: placedF (to : Nat) (nx.drop (i + 1)) (T.drop a) (S.drop a) (P.drop (b + 1)) := by
          show (if isPart _ _ _ _ = true then _ else _) = _
          rw [if_pos hip, drop_getD, List.drop_drop]
        rw [hst] at q5
        obtain ⟨c1, c2, c3, c4, c5⟩ := isPart_iff.1 hip
        clear hip
        rw [← hx] at c2 c4 c5
        have hfin : ∀ u2 : Value, i + 1 ≤ nx.length ∧ a ≤ T.length ∧ b + 1 ≤ P.length ∧ (out ++ [P.getD b default]).length ≤ i + 1 ∧ (out ++ [P.getD b default]) ++ placedF (to : Nat) (nx.drop (i + 1)) (T.drop a) (S.drop a) (P.drop (b + 1)) = placedF (to : Nat) nx T S P := fun _ =>
          ⟨by omega, q2, by omega, by rw [List.length_append, List.length_singleton]; omega, by rw [List.append_assoc]; exact q5⟩
        by_cases c6 : T.length ≤ a
        · repeat' (first|with_reducible (first|apply Stp.go|refine imp fun _=>?_|(refine need ?_ ?_;first|trivial|omega|exact ⟨by assumption,by omega⟩|(simp only [zL,zM];omega))|refine choT (by assumption) ?_|refine choF (by assumption) ?_|refine choF' (by assumption) ?_|(refine altT ?_ ?_;first|omega|(simp only [zL,zM];omega))|refine altF ?_|refine all fun _=>?_|refine both ?_ ?_|(refine choT ?_ ?_;omega)|(refine choF ?_ ?_;omega)|refine cho (fun _=>?_) fun _=>?_)|(with_reducible refine fact ?_ ?_;first|trivial|exact ⟨rfl,rfl⟩|kernel_rfl))
          rename_i u2
          exact again (i + 1, a, b + 1, u2, out ++ [P.getD b default]) (by dsimp only; omega) (hfin u2) (Sub.refl _ _)
        · have c7 := c5.resolve_left c6
          have c8 : ¬ (⟨(nx.getD i default).lev, (nx.getD i default).cnt, ⟨(nx.getD i default).root.val, Len32.len⟩, (nx.getD i default).fst, (nx.getD i default).lst⟩ : TabR) = ⟨(T.getD a default).lev, (T.getD a default).cnt, ⟨(T.getD a default).root.val, Len32.len⟩, (T.getD a default).fst, (T.getD a default).lst⟩ := c7
          repeat' (first|with_reducible (first|apply Stp.go|refine imp fun _=>?_|(refine need ?_ ?_;first|trivial|omega|exact ⟨by assumption,by omega⟩|(simp only [zL,zM];omega))|refine choT (by assumption) ?_|refine choF (by assumption) ?_|refine choF' (by assumption) ?_|(refine altT ?_ ?_;first|omega|(simp only [zL,zM];omega))|refine altF ?_|refine all fun _=>?_|refine both ?_ ?_|(refine choT ?_ ?_;omega)|(refine choF ?_ ?_;omega)|refine cho (fun _=>?_) fun _=>?_)|(with_reducible refine fact ?_ ?_;first|trivial|exact ⟨rfl,rfl⟩|kernel_rfl))
          rename_i u2
          exact again (i + 1, a, b + 1, u2, out ++ [P.getD b default]) (by dsimp only; omega) (hfin u2) (Sub.refl _ _)
      · have hpa : isPart (to : Nat) x (T.drop a) (P.drop b) = false := Bool.eq_false_iff.2 hip
        rw [isPart_iff] at hip
        rw [← hx] at hip
        by_cases ha : a < S.length
        · have hst : placedF (to : Nat) (x :: nx.drop (i + 1)) (T.drop a) (S.drop a) (P.drop b) = S.getD a default :: placedF (to : Nat) (nx.drop (i + 1)) (T.drop (a + 1)) (S.drop (a + 1)) (P.drop b) := by
            show (if isPart _ _ _ _ = true then _ else if 0 < (S.drop a).length then _ else _) = _
            rw [if_neg (by rw [hpa]; decide), if_pos (by rw [List.length_drop]; omega), drop_getD, List.drop_drop, List.drop_drop]
          rw [hst] at q5
          have hfin : ∀ u2 : Value, i + 1 ≤ nx.length ∧ a + 1 ≤ T.length ∧ b ≤ P.length ∧ (out ++ [S.getD a default]).length ≤ i + 1 ∧ (out ++ [S.getD a default]) ++ placedF (to : Nat) (nx.drop (i + 1)) (T.drop (a + 1)) (S.drop (a + 1)) (P.drop b) = placedF (to : Nat) nx T S P := fun _ =>
            ⟨by omega, by omega, q3, by rw [List.length_append, List.length_singleton]; omega, by rw [List.append_assoc]; exact q5⟩
          repeat' (first|with_reducible (first|apply Stp.go|refine imp fun _=>?_|(refine need ?_ ?_;first|trivial|omega|exact ⟨by assumption,by omega⟩|(simp only [zL,zM];omega))|refine choT (by assumption) ?_|refine choF (by assumption) ?_|refine choF' (by assumption) ?_|(refine altT ?_ ?_;first|omega|(simp only [zL,zM];omega))|refine altF ?_|refine all fun _=>?_|refine both ?_ ?_|(refine choT ?_ ?_;omega)|(refine choF ?_ ?_;omega)|refine cho (fun _=>?_) fun _=>?_)|(with_reducible refine fact ?_ ?_;first|trivial|exact ⟨rfl,rfl⟩|kernel_rfl))
          all_goals first
          | (rename_i u2
             exact again (i + 1, a + 1, b, u2, out ++ [S.getD a default]) (by dsimp only; omega) (hfin u2) (Sub.refl _ _))
          | (rename_i g1 g2 g3 g4 g5 _
             exact (hip ⟨g1, g2, g3, g4, .inr g5⟩).elim)
        · have hst : placedF (to : Nat) (x :: nx.drop (i + 1)) (T.drop a) (S.drop a) (P.drop b) = placedF (to : Nat) (nx.drop (i + 1)) (T.drop a) (S.drop a) (P.drop b) := by
            show (if isPart _ _ _ _ = true then _ else if 0 < (S.drop a).length then _ else _) = _
            rw [if_neg (by rw [hpa]; decide), if_neg (by rw [List.length_drop]; omega)]
          rw [hst] at q5
          repeat' (first|with_reducible (first|apply Stp.go|refine imp fun _=>?_|(refine need ?_ ?_;first|trivial|omega|exact ⟨by assumption,by omega⟩|(simp only [zL,zM];omega))|refine choT (by assumption) ?_|refine choF (by assumption) ?_|refine choF' (by assumption) ?_|(refine altT ?_ ?_;first|omega|(simp only [zL,zM];omega))|refine altF ?_|refine all fun _=>?_|refine both ?_ ?_|(refine choT ?_ ?_;omega)|(refine choF ?_ ?_;omega)|refine cho (fun _=>?_) fun _=>?_)|(with_reducible refine fact ?_ ?_;first|trivial|exact ⟨rfl,rfl⟩|kernel_rfl))
          all_goals first
          | exact again (i + 1, a, b, u, out) (by dsimp only; omega) ⟨by dsimp only; omega, q2, q3, by dsimp only; omega, q5⟩ (Sub.refl _ _)
          | (rename_i g1 g2 g3 g4 _
             exact (hip ⟨g1, g2, g3, g4, .inl (by omega)⟩).elim)
    · have e : i = nx.length := by omega
      subst e
      rw [List.drop_length] at q5
      have q6 : out = placedF (to : Nat) nx T S P := by rw [← q5]; exact (List.append_nil _).symm
      rw [← q6]
      repeat' (first|with_reducible (first|apply Stp.go|refine imp fun _=>?_|(refine need ?_ ?_;first|trivial|omega|exact ⟨by assumption,by omega⟩|(simp only [zL,zM];omega))|refine choT (by assumption) ?_|refine choF (by assumption) ?_|refine choF' (by assumption) ?_|(refine altT ?_ ?_;first|omega|(simp only [zL,zM];omega))|refine altF ?_|refine all fun _=>?_|refine both ?_ ?_|(refine choT ?_ ?_;omega)|(refine choF ?_ ?_;omega)|refine cho (fun _=>?_) fun _=>?_)|(with_reducible refine fact ?_ ?_;first|trivial|exact ⟨rfl,rfl⟩|kernel_rfl))
      exact ⟨_, _, _, rfl, retOwn (Sub.app_nil _), rfl, rfl⟩
instance {a b c e f : AV} {l nx : List TabR} {rows P : List (List En)} {J : List Int} {to : Nat} {x : Int} {m1 m2 m3 m4 m5 : SM} [h1 : IsL a tbF 36 l m1] [h2 : IsL b enL 1 rows m2] [h3 : IsL c it 1 J m3] [h4 : NatOf x to] [h5 : IsL e enL 1 P m4] [h6 : IsL f tbF 36 nx m5] :
    PC Go.Proofs.Try.prog 33 [a, b, c, .val (.int .i64 x), e, f] (rows.length = l.length ∧ l.length ≤ 100000 ∧ J.length ≤ 100000 ∧ P.length ≤ 100000 ∧ nx.length ≤ 100000 ∧ ∀ p ∈ P, p.length ≤ 100000)
      (.lst 1 ((placedF (to : Nat) nx (stayT l J l.length) (stayR rows J l.length) P).map enL) .ro) := ⟨fun hl => by
  rw [h4.eq]
  exact ⟨[.lst 36 (l.map tbF) .ro, .lst 1 (rows.map enL) .ro, .lst 1 (J.map it) .ro, I .i64 (to : Nat), .lst 1 (P.map enL) .ro, .lst 36 (nx.map tbF) .ro],
    ⟨fun R v hv => SubV.ro _ _ _ R v (h1.sub R v hv), fun R v hv => SubV.ro _ _ _ R v (h2.sub R v hv), fun R v hv => SubV.ro _ _ _ R v (h3.sub R v hv), SubV.refl _, fun R v hv => SubV.ro _ _ _ R v (h5.sub R v hv), fun R v hv => SubV.ro _ _ _ R v (h6.sub R v hv), trivial⟩, placed_ok l rows J to P nx hl.1 hl.2.1 hl.2.2.1 hl.2.2.2.1 hl.2.2.2.2.1 hl.2.2.2.2.2⟩⟩
end Go.Ab

/- A store behind its next merge, walked. -/
set_option linter.unusedVariables false
set_option linter.unusedSimpArgs false
namespace Go.Ab
theorem compact_store {b : Int} {l : List TabR} {rows : List (List En)} (h : StoreOk b l rows) (hk : lvlT l < 3) : compactT b l (rowsIn l (lvlT l) rows) = ((nextT b l (lvlT l) (rowsIn l (lvlT l) rows), partsT (lvlT l) (rowsIn l (lvlT l) rows)), 0) := by
  have hR := rowsIn_ok (k := lvlT l) h
  obtain ⟨hm, _, _⟩ := (rightT_iff l).1 h.right
  unfold compactT
  rw [if_pos h.right, if_pos hk, if_pos]
  refine ⟨hR.1.symm, ?_⟩
  unfold allOk
  rw [decide_eq_true_eq]
  intro j hj
  exact (okB_iff (hm _ (getD_memT (inK_mem.1 (getD_memT hj)).1))).2 (hR.2 j hj)
/-- What merged tells. -/
def mergedR (b : Int) (l : List TabR) (rows : List (List En)) : AV :=
  if lvlT l < 3 then .tuple [.lst 36 ((mergedT b l rows).1.map tbF) .ro, .lst 1 ((mergedT b l rows).2.map enL) .ro, B true]
  else .tuple [.lst 36 (([] : List TabR).map tbF) .ro, .lst 1 (([] : List (List En)).map enL) .ro, B false]
theorem tells_len {b : Int} : ∀ {l : List TabR} {rows : List (List En)}, Tells b l rows → ∀ r ∈ rows, fit r = true
  | _, _, .nil, r, hr => by cases hr
  | _, _, .cons h h2, r, hr => by
    rcases List.mem_cons.1 hr with rfl | hr
    · exact h.fit
    · exact tells_len h2 r hr
def law17_merged.mark : Mark := ⟨fun t => Nat.beq t 19 || Nat.beq t 72, fun t => false, fun t => Nat.beq t 3, fun t => Nat.beq t 34 || Nat.beq t 40 || Nat.beq t 50 || Nat.beq t 52 || Nat.beq t 56, fun t => false⟩
def law17_merged.ann : Ann := ⟨fun n => bif Nat.beq n 6 then [1, 2, 3, 9, 10, 12, 13] else [], fun n => none, fun n => none⟩
/-- 'marlstone/marlstonelaw17.merged' -/
def law17_merged.sh (a0 a1 a2 : AV) (σ : Store) (Q : AEnd → Store → Prop) : Prop :=
  Do (aFreeze ((a0 : AV)).cells) fun t3 =>
  Do (aPureC Go.Proofs.Try.prog 15 [a1]) fun t19 =>
  Do (aExt t19 0) fun t20 =>
  Do (aExt t19 1) fun t21 =>
  Do (aExt t19 2) fun t22 =>
  Do (aUn Go.Proofs.Try.prog .not t22) fun t24 =>
  aCond t24
    (Q (.ret (.tuple [(.val (.slice none 0 0)), (.val (.slice none 0 0)), (.val (.bool false))])) σ)
    (aLoop (fun go vs σ =>
    At vs 0 fun s1 => At vs 1 fun s2 => At vs 2 fun s3 => At vs 3 fun s9 => At vs 4 fun s10 => At vs 5 fun s12 => At vs 6 fun s13 => Do (aBuiltin Go.Proofs.Try.prog .len #[34] [s9]) fun t27 =>
    Do (aBin Go.Proofs.Try.prog .lss 3 s13 t27) fun t28 =>
    aCond t28
      (Do (aIndexAddr .slice 1 s9 s13) fun t33 =>
    Do (loadF false 1 t33) fun t34 =>
    Do (aBin Go.Proofs.Try.prog .lss 3 t34 (.val (.int .i64 0))) fun t35 =>
    Do (aGuard t35 false (aIs s9)) fun t37 =>
    Do (aGuard t35 false (aIs s13)) fun t38 =>
    Do (aGuard t35 false (aIndexAddr .slice 1 t37 t38)) fun t39 =>
    Do (aGuard t35 false (loadF false 1 t39)) fun t40 =>
    Do (aGuard t35 false (aIs s2)) fun t41 =>
    Do (aGuard t35 false (aBuiltin Go.Proofs.Try.prog .len #[41] [t41])) fun t42 =>
    Do (aGuard t35 false (aBin Go.Proofs.Try.prog .geq 3 t40 t42)) fun t43 =>
    Do (aPick t35 (.val (.bool true)) t43) fun t44 =>
    aCond t44
      (Q (.ret (.tuple [(.val (.slice none 0 0)), (.val (.slice none 0 0)), (.val (.bool false))])) σ)
      (Do (aIndexAddr .slice 1 s9 s13) fun t49 =>
    Do (loadF false 1 t49) fun t50 =>
    Do (aIndexAddr .slice 1 s2 t50) fun t51 =>
    Do (loadF false 1 t51) fun t52 =>
    Do (aSlLit (mkE [.val (.slice none 0 0)]) 1 1 [(0, t52)]) fun t53 =>
    aAppend 23 1 24 s12 t53 σ (subK fun t54 σ_1 =>
    Do (aBin Go.Proofs.Try.prog .add 3 s13 (.val (.int .i64 1))) fun t30 =>
    go [s1, s2, s3, s9, s10, t54, t30] σ_1)))
      (Do (loadF true 1 s3) fun t56 =>
  aCall Go.Proofs.Try.prog 18 [t56, s1, s12] σ (fun t59 σ_2 =>
  Do (aExt t59 0) fun t60 =>
  Do (aExt t59 1) fun t61 =>
  Do (aExt t59 2) fun t62 =>
  Do (aBin Go.Proofs.Try.prog .neq 26 t62 (.val (.int .i64 0))) fun t64 =>
  aCond t64
    (Q (.ret (.tuple [(.val (.slice none 0 0)), (.val (.slice none 0 0)), (.val (.bool false))])) σ_2)
    (Do (aPureC Go.Proofs.Try.prog 33 [s1, s2, s9, s10, t61, t60]) fun t72 =>
  Q (.ret (.tuple [t60, t72, (.val (.bool true))])) σ_2)) (fun e σ_3 => Q (.pan e) σ_3)))
    [a1, a2, t3, t20, t21, (.val (.slice none 0 0)), (.val (.int .i64 0))] σ)
theorem law17_merged.eq (a0 a1 a2 : AV) (σ : Store) (Q : AEnd → Store → Prop) : vc (semOf Go.Proofs.Try.prog law17_merged.mark) Go.Proofs.Try.f16.ntmps law17_merged.ann (bodyOf Go.Proofs.Try.f16) (endK [.tmp 6, .tmp 7, .tmp 8] Q) (argFr [a0, a1, a2]) σ = law17_merged.sh a0 a1 a2 σ Q := by kernel_rfl
theorem law17_merged.go {a0 a1 a2 : AV} {σ : Store} {Q : AEnd → Store → Prop} (h : law17_merged.sh a0 a1 a2 σ Q) : ACalls Go.Proofs.Try.prog 16 [a0, a1, a2] σ Q :=
  acalls_of_eq [.tmp 6, .tmp 7, .tmp 8] Go.Proofs.Try.func16 (by kernel_rfl) (by kernel_rfl) (by kernel_rfl) (by kernel_rfl) (law17_merged.eq a0 a1 a2 σ Q) h
theorem merged_ok (b : Int) (l : List TabR) (rows : List (List En)) (h : StoreOk b l rows) : aPure Go.Proofs.Try.prog 16 [trA b, .lst 36 (l.map tbF) .ro, .lst 1 (rows.map enL) .ro] (mergedR b l rows) := by
  refine ACalls.fin (law17_merged.go ?_)
  unfold law17_merged.sh mergedR
  obtain ⟨hm, hpw, h5⟩ := (rightT_iff l).1 h.right
  have hrl := h.tells.len
  have hp := Inputs_ok l .ro (by omega)
  unfold inputsR pickR at hp
  rw [if_pos h.right] at hp
  have hfr := tells_len h.tells
  by_cases hk : lvlT l < 3
  · rw [if_pos hk] at hp ⊢
    rw [map_itN] at hp
    have iP : PC Go.Proofs.Try.prog 15 [.lst 36 (l.map tbF) .ro] True _ := ⟨fun _ => PC.of hp⟩
    have htt : (true : Bool) = true := rfl
    have hmI : ∀ j, j < (inK l (lvlT l)).length → (inK l (lvlT l)).getD j default < l.length := fun j hj => (inK_mem.1 (getD_memT hj)).1
    have hIl : (inK l (lvlT l)).length ≤ l.length := Nat.le_trans (List.length_filter_le _ _) (by rw [List.length_range]; exact Nat.le_refl _)
    have hR := rowsIn_ok (k := lvlT l) h
    have hf : ∀ r ∈ rowsIn l (lvlT l) rows, fit r = true := fun r hr => hR.fit hr
    have hnl := (merged_all h hk).1
    have hnl2 := (merged_all h hk).2.1
    have hRl : (rowsIn l (lvlT l) rows).length = (inK l (lvlT l)).length := hR.1
    have hpl := parts_len17 (k := lvlT l) hf
    have hpf : ∀ p ∈ partsT (lvlT l) (rowsIn l (lvlT l) rows), p.length ≤ 100000 := fun p hp => by have := (fit_right (parts_fit hf hp)).1; omega
    have hC := Compact_ok b l (rowsIn l (lvlT l) rows) .ro .ro (by omega) (by omega) (fun r hr => by have := (fit_right (hf r hr)).1; omega)
    rw [compact_store h hk] at hC
    dsimp only at hC
    have iC : ∀ {a c : AV} {m m' : SM} [h1 : IsL a tbF 36 l m] [h2 : IsL c enL 1 (rowsIn l (lvlT l) rows) m'], PC Go.Proofs.Try.prog 18 [trA b, a, c] True (.tuple [.lst 36 ((nextT b l (lvlT l) (rowsIn l (lvlT l) rows)).map tbF) .ro, .lst 1 ((partsT (lvlT l) (rowsIn l (lvlT l) rows)).map enL) .ro, I .i64 ((0 : Nat) : Int)]) := by
      intro a c m m' h1 h2
      exact ⟨fun _ => ⟨[trA b, .lst 36 (l.map tbF) .ro, .lst 1 ((rowsIn l (lvlT l) rows).map enL) .ro], ⟨SubV.refl _, fun R v hv => SubV.ro _ _ _ R v (h1.sub R v hv), fun R v hv => SubV.ro _ _ _ R v (h2.sub R v hv), trivial⟩, hC⟩⟩
    have hnn : (nextT b l (lvlT l) (rowsIn l (lvlT l) rows)).length ≤ l.length := hnl2
    repeat' (first|with_reducible (first|apply Stp.go|refine imp fun _=>?_|(refine need ?_ ?_;first|trivial|omega|exact ⟨by assumption,by omega⟩|(simp only [zL,zM];omega))|refine choT (by assumption) ?_|refine choF (by assumption) ?_|refine choF' (by assumption) ?_|(refine altT ?_ ?_;first|omega|(simp only [zL,zM];omega))|refine altF ?_|refine all fun _=>?_|refine both ?_ ?_|(refine choT ?_ ?_;omega)|(refine choF ?_ ?_;omega)|refine cho (fun _=>?_) fun _=>?_)|(with_reducible refine fact ?_ ?_;first|trivial|exact ⟨rfl,rfl⟩|kernel_rfl))
    refine loopI (β := Nat × Value) (fun x => x.1 ≤ (inK l (lvlT l)).length)
      (fun x => [.lst 36 (l.map tbF) .ro, .lst 1 (rows.map enL) .ro, .rptr [I .i64 b], .lst 1 ((inK l (lvlT l)).map itN) .ro, I .i64 (lvlT l + 1 : Nat), .own x.2 (((inK l (lvlT l)).take x.1).map fun i => rows.getD i default).length, I .i64 (x.1 : Nat)])
      (fun x => [.row x.2 EsT 1 ((((inK l (lvlT l)).take x.1).map fun i => rows.getD i default).map enL) 0]) (fun x => (inK l (lvlT l)).length - x.1) (0, .slice none 0 0) (Nat.zero_le _) (Sub.nil_own EsT (sz := 1) (by decide) _ [_, _, _, _, _] [_]) ?_
    rintro ⟨i, v⟩ q1
    dsimp only at q1 ⊢
    by_cases hi : i < (inK l (lvlT l)).length
    · have hx := hmI i hi
      have htk := congrArg (List.map fun i => rows.getD i default) (take_succ_d hi)
      rw [List.map_append] at htk
      have hln : (((inK l (lvlT l)).take i).map fun i => rows.getD i default).length ≤ 1000 := by rw [List.length_map, List.length_take]; omega
      repeat' (first|with_reducible (first|apply Stp.go|refine imp fun _=>?_|(refine need ?_ ?_;first|trivial|omega|exact ⟨by assumption,by omega⟩|(simp only [zL,zM];omega))|refine choT (by assumption) ?_|refine choF (by assumption) ?_|refine choF' (by assumption) ?_|(refine altT ?_ ?_;first|omega|(simp only [zL,zM];omega))|refine altF ?_|refine all fun _=>?_|refine both ?_ ?_|(refine choT ?_ ?_;omega)|(refine choF ?_ ?_;omega)|refine cho (fun _=>?_) fun _=>?_)|(with_reducible refine fact ?_ ?_;first|trivial|exact ⟨rfl,rfl⟩|kernel_rfl))
      rename_i w
      exact again (i + 1, w) (by dsimp only; omega) (by dsimp only; omega) (by dsimp only; rw [htk]; exact Sub.refl _ _)
    · have ei : i = (inK l (lvlT l)).length := by omega
      subst ei
      rw [List.take_length, show ((inK l (lvlT l)).map fun i => rows.getD i default) = rowsIn l (lvlT l) rows from rfl]
      have iI : IsL (.lst 1 ((inK l (lvlT l)).map itN) .ro) it 1 ((inK l (lvlT l)).map Int.ofNat) .ro := ⟨by rw [← map_itN]; exact SubV.refl _⟩
      have hJl : ((inK l (lvlT l)).map Int.ofNat).length ≤ 100000 := by rw [List.length_map]; omega
      repeat' (first|with_reducible (first|apply Stp.go|refine imp fun _=>?_|(refine need ?_ ?_;first|trivial|omega|exact ⟨by assumption,by omega⟩|(simp only [zL,zM];omega))|refine choT (by assumption) ?_|refine choF (by assumption) ?_|refine choF' (by assumption) ?_|(refine altT ?_ ?_;first|omega|(simp only [zL,zM];omega))|refine altF ?_|refine all fun _=>?_|refine both ?_ ?_|(refine choT ?_ ?_;omega)|(refine choF ?_ ?_;omega)|refine cho (fun _=>?_) fun _=>?_)|(with_reducible refine fact ?_ ?_;first|trivial|exact ⟨rfl,rfl⟩|kernel_rfl))
      refine ⟨⟨hrl, by omega, hJl, by omega, by omega, hpf⟩, ?_⟩
      exact ⟨_, _, _, rfl, Sub.refl _ _, rfl, rfl⟩
  · rw [if_neg hk] at hp ⊢
    have iP : PC Go.Proofs.Try.prog 15 [.lst 36 (l.map tbF) .ro] True _ := ⟨fun _ => PC.of hp⟩
    have hff : ¬ (false : Bool) = true := by decide
    repeat' (first|with_reducible (first|apply Stp.go|refine imp fun _=>?_|(refine need ?_ ?_;first|trivial|omega|exact ⟨by assumption,by omega⟩|(simp only [zL,zM];omega))|refine choT (by assumption) ?_|refine choF (by assumption) ?_|refine choF' (by assumption) ?_|(refine altT ?_ ?_;first|omega|(simp only [zL,zM];omega))|refine altF ?_|refine all fun _=>?_|refine both ?_ ?_|(refine choT ?_ ?_;omega)|(refine choF ?_ ?_;omega)|refine cho (fun _=>?_) fun _=>?_)|(with_reducible refine fact ?_ ?_;first|trivial|exact ⟨rfl,rfl⟩|kernel_rfl))
    all_goals exact ⟨_, _, _, rfl, Sub.tuple (retNil tbF (sz := 36) (by decide) (retNil enL (sz := 1) (by decide) (Sub.app_nil _))), rfl, rfl⟩
end Go.Ab

/- A store: rows that are flushed one behind the other, and merges; walked. -/
set_option linter.unusedVariables false
set_option linter.unusedSimpArgs false
namespace Go.Ab
/-- So many merges, as long as there is one. -/
def mergesT (b : Int) : Nat → List TabR × List (List En) → List TabR × List (List En)
  | 0, s => s
  | n + 1, s => if lvlT s.1 < 3 then mergesT b n (mergedT b s.1 s.2) else s
/-- How many merges are asked for behind a row. -/
def cntM (merges : List Int) (i : Nat) : Nat := if i < merges.length then (merges.getD i default % 4).toNat else 0
/-- A store of the first rows. -/
def storeT (b : Int) (news : List (List En)) (merges : List Int) : Nat → List TabR × List (List En)
  | 0 => ([], [])
  | i + 1 => if (fit17 20 (news.getD i default)).length = 0 then storeT b news merges i
    else mergesT b (cntM merges i) (newT b 0 (fit17 20 (news.getD i default)) :: (storeT b news merges i).1, fit17 20 (news.getD i default) :: (storeT b news merges i).2)
theorem merges_ok {b : Int} : ∀ (n : Nat) {s : List TabR × List (List En)}, StoreOk b s.1 s.2 → StoreOk b (mergesT b n s).1 (mergesT b n s).2 ∧ (mergesT b n s).1.length ≤ s.1.length
  | 0, s, h => ⟨h, Nat.le_refl _⟩
  | n + 1, s, h => by
    unfold mergesT
    split
    · rename_i hk
      have h1 := merged_all h hk
      have h2 := merges_ok n (s := mergedT b s.1 s.2) h1.1
      exact ⟨h2.1, by have := h1.2.1; omega⟩
    · exact ⟨h, Nat.le_refl _⟩
theorem store_nil (b : Int) : StoreOk b [] [] := ⟨(rightT_iff _).2 ⟨fun x hx => (by cases hx), .nil, Nat.zero_le _⟩, .nil⟩
theorem store_all (b : Int) (news : List (List En)) (merges : List Int) : ∀ i, i ≤ 14 → StoreOk b (storeT b news merges i).1 (storeT b news merges i).2 ∧ (storeT b news merges i).1.length ≤ i
  | 0, _ => ⟨store_nil b, Nat.le_refl _⟩
  | i + 1, hi => by
    have ih := store_all b news merges i (by omega)
    unfold storeT
    split
    · exact ⟨ih.1, by omega⟩
    · rename_i h0
      have hf := fit17_fit (k := 20) (l := news.getD i default) (by decide) (by omega)
      have h1 := flush_all ih.1 hf (by omega)
      have h2 := merges_ok (cntM merges i) (s := (newT b 0 (fit17 20 (news.getD i default)) :: (storeT b news merges i).1, fit17 20 (news.getD i default) :: (storeT b news merges i).2)) h1
      refine ⟨h2.1, Nat.le_trans h2.2 ?_⟩
      dsimp only
      rw [List.length_cons]
      omega
instance mask2 {P : Program} {t : TypeId} {x : Int} {K : AV → Prop} : Stp (Do (aBin P .and t (.val (.int .i64 x)) (.val (.int .i64 3))) K) (K (.val (.int .i64 ((x % 4).toNat : Nat)))) := ⟨fun h => s_mask 2 (by decide) h⟩
def law17_store.mark : Mark := ⟨fun t => Nat.beq t 33 || Nat.beq t 41 || Nat.beq t 70, fun t => Nat.beq t 48, fun t => Nat.beq t 3, fun t => Nat.beq t 32 || Nat.beq t 38 || Nat.beq t 60 || Nat.beq t 67, fun t => false⟩
def law17_store.ann : Ann := ⟨fun n => bif Nat.beq n 4 then [1, 2, 3, 9, 10, 11] else bif Nat.beq n 14 then [1, 2, 3, 9, 10, 11, 15] else [], fun n => none, fun n => none⟩
/-- 'marlstone/marlstonelaw17.store' -/
def law17_store.sh (a0 a1 a2 : AV) (σ : Store) (Q : AEnd → Store → Prop) : Prop :=
  Do (aFreeze ((a0 : AV)).cells) fun t3 =>
  aLoop (fun go vs σ =>
    At vs 0 fun s1 => At vs 1 fun s2 => At vs 2 fun s3 => At vs 3 fun s9 => At vs 4 fun s10 => At vs 5 fun s11 => Do (aBuiltin Go.Proofs.Try.prog .len #[41] [s1]) fun t21 =>
    Do (aBin Go.Proofs.Try.prog .lss 3 s11 t21) fun t22 =>
    Do (aGuard t22 true (aIs s11)) fun t24 =>
    Do (aGuard t22 true (aBin Go.Proofs.Try.prog .lss 3 t24 (.val (.int .i64 14)))) fun t25 =>
    Do (aPick t22 t25 (.val (.bool false))) fun t26 =>
    aCond t26
      (Do (aIndexAddr .slice 1 s1 s11) fun t31 =>
    Do (loadF false 1 t31) fun t32 =>
    Do (aPureC Go.Proofs.Try.prog 14 [t32, (.val (.int .i64 20))]) fun t33 =>
    Do (aBuiltin Go.Proofs.Try.prog .len #[23] [t33]) fun t35 =>
    Do (aBin Go.Proofs.Try.prog .eql 3 t35 (.val (.int .i64 0))) fun t36 =>
    aCond t36
      (Do (aBin Go.Proofs.Try.prog .add 3 s11 (.val (.int .i64 1))) fun t28 =>
    go [s1, s2, s3, s9, s10, t28] σ)
      (Do (loadF true 1 s3) fun t38 =>
    Do (aPureC Go.Proofs.Try.prog 9 [t38, s9, t33]) fun t41 =>
    Do (aExt t41 0) fun t42 =>
    Do (aExt t41 1) fun t43 =>
    Do (aBin Go.Proofs.Try.prog .neq 26 t43 (.val (.int .i64 0))) fun t45 =>
    aCond t45
      (Q (.ret (.tuple [(.val (.slice none 0 0)), (.val (.slice none 0 0)), (.val (.bool false))])) σ)
      (aRowL 23 (mkE [.val (.slice none 0 0)]) 1 1 [(0, t33)] σ fun t48 σ_1 =>
    aAppend 23 1 24 t48 s10 σ_1 (subK fun t50 σ_2 =>
    aLoop (fun go_1 vs_1 σ_3 =>
      At vs_1 0 fun s1_1 => At vs_1 1 fun s2_1 => At vs_1 2 fun s3_1 => At vs_1 3 fun s9_1 => At vs_1 4 fun s10_1 => At vs_1 5 fun s11_1 => At vs_1 6 fun s15 => Do (aBuiltin Go.Proofs.Try.prog .len #[34] [s2_1]) fun t53 =>
      Do (aBin Go.Proofs.Try.prog .lss 3 s11_1 t53) fun t54 =>
      Do (aGuard t54 true (aIs s15)) fun t56 =>
      Do (aGuard t54 true (aIs s2_1)) fun t57 =>
      Do (aGuard t54 true (aIs s11_1)) fun t58 =>
      Do (aGuard t54 true (aIndexAddr .slice 1 t57 t58)) fun t59 =>
      Do (aGuard t54 true (loadF false 1 t59)) fun t60 =>
      Do (aGuard t54 true (aBin Go.Proofs.Try.prog .and 3 t60 (.val (.int .i64 3)))) fun t61 =>
      Do (aGuard t54 true (aBin Go.Proofs.Try.prog .lss 3 t56 t61)) fun t62 =>
      Do (aPick t54 t62 (.val (.bool false))) fun t63 =>
      aCond t63
        (Do (loadF true 1 s3_1) fun t67 =>
      Do (aPureC Go.Proofs.Try.prog 16 [t67, s9_1, s10_1]) fun t70 =>
      Do (aExt t70 0) fun t71 =>
      Do (aExt t70 1) fun t72 =>
      Do (aExt t70 2) fun t73 =>
      Do (aUn Go.Proofs.Try.prog .not t73) fun t75 =>
      aCond t75
        (Do (aBin Go.Proofs.Try.prog .add 3 s11_1 (.val (.int .i64 1))) fun t28_1 =>
    go [s1_1, s2_1, s3_1, s9_1, s10_1, t28_1] σ_3)
        (Do (aBin Go.Proofs.Try.prog .add 3 s15 (.val (.int .i64 1))) fun t65 =>
      go_1 [s1_1, s2_1, s3_1, t71, t72, s11_1, t65] σ_3))
        (Do (aBin Go.Proofs.Try.prog .add 3 s11_1 (.val (.int .i64 1))) fun t28_2 =>
    go [s1_1, s2_1, s3_1, s9_1, s10_1, t28_2] σ_3))
      [s1, s2, s3, t42, t50, s11, (.val (.int .i64 0))] σ_2))))
      (Q (.ret (.tuple [s9, s10, (.val (.bool true))])) σ))
    [a1, a2, t3, (.val (.slice none 0 0)), (.val (.slice none 0 0)), (.val (.int .i64 0))] σ
theorem law17_store.eq (a0 a1 a2 : AV) (σ : Store) (Q : AEnd → Store → Prop) : vc (semOf Go.Proofs.Try.prog law17_store.mark) Go.Proofs.Try.f13.ntmps law17_store.ann (bodyOf Go.Proofs.Try.f13) (endK [.tmp 6, .tmp 7, .tmp 8] Q) (argFr [a0, a1, a2]) σ = law17_store.sh a0 a1 a2 σ Q := by kernel_rfl
theorem law17_store.go {a0 a1 a2 : AV} {σ : Store} {Q : AEnd → Store → Prop} (h : law17_store.sh a0 a1 a2 σ Q) : ACalls Go.Proofs.Try.prog 13 [a0, a1, a2] σ Q :=
  acalls_of_eq [.tmp 6, .tmp 7, .tmp 8] Go.Proofs.Try.func13 (by kernel_rfl) (by kernel_rfl) (by kernel_rfl) (by kernel_rfl) (law17_store.eq a0 a1 a2 σ Q) h
theorem store_ok (b : Int) (news : List (List En)) (merges : List Int) (m m' : SM) (hn : news.length ≤ 9223372036854775807) (hm : merges.length ≤ 9223372036854775807) (hnl : ∀ r ∈ news, r.length ≤ 9223372036854775807) :
    aPure Go.Proofs.Try.prog 13 [trA b, .lst 1 (news.map enL) m, .lst 1 (merges.map it) m']
      (.tuple [.lst 36 ((storeT b news merges (min news.length 14)).1.map tbF) .ro, .lst 1 ((storeT b news merges (min news.length 14)).2.map enL) .ro, B true]) := by
  refine ACalls.fin (law17_store.go ?_)
  unfold law17_store.sh
  repeat' (first|with_reducible (first|apply Stp.go|refine imp fun _=>?_|(refine need ?_ ?_;first|trivial|omega|exact ⟨by assumption,by omega⟩|(simp only [zL,zM];omega))|refine choT (by assumption) ?_|refine choF (by assumption) ?_|refine choF' (by assumption) ?_|(refine altT ?_ ?_;first|omega|(simp only [zL,zM];omega))|refine altF ?_|refine all fun _=>?_|refine both ?_ ?_|(refine choT ?_ ?_;omega)|(refine choF ?_ ?_;omega)|refine cho (fun _=>?_) fun _=>?_)|(with_reducible refine fact ?_ ?_;first|trivial|exact ⟨rfl,rfl⟩|kernel_rfl))
  refine loopI (β := Nat) (fun i => i ≤ news.length ∧ i ≤ 14)
    (fun i => [.lst 1 (news.map enL) m, .lst 1 (merges.map it) m', .rptr [I .i64 b], .lst 36 ((storeT b news merges i).1.map tbF) .ro, .lst 1 ((storeT b news merges i).2.map enL) .ro, I .i64 (i : Nat)])
    (fun _ => []) (fun i => 14 - i) 0 ⟨Nat.zero_le _, Nat.zero_le _⟩
    (Sub.vals ⟨SubV.refl _, SubV.refl _, SubV.refl _, fun R v h => SubV.ro _ _ _ R v (SubV.nil 36 (by decide) R v h), fun R v h => SubV.ro _ _ _ R v (SubV.nil 1 (by decide) R v h), SubV.refl _, trivial⟩) ?_
  rintro i ⟨h1, h2⟩
  have hsi := store_all b news merges i h2
  by_cases hi : i < news.length ∧ i < 14
  · obtain ⟨hi1, hi2⟩ := hi
    have hrl := hnl _ (getD_memT hi1)
    have hfl := fit17_len 20 (news.getD i default)
    have hst : storeT b news merges (i + 1) = if (fit17 20 (news.getD i default)).length = 0 then storeT b news merges i
      else mergesT b (cntM merges i) (newT b 0 (fit17 20 (news.getD i default)) :: (storeT b news merges i).1, fit17 20 (news.getD i default) :: (storeT b news merges i).2) := rfl
    have hff := fit17_fit (k := 20) (l := news.getD i default) (by decide)
    generalize hS : storeT b news merges i = s at *
    obtain ⟨l, rows⟩ := s
    dsimp only at hsi hst ⊢
    by_cases h0 : (fit17 20 (news.getD i default)).length = 0
    · rw [if_pos h0] at hst
      repeat' (first|with_reducible (first|apply Stp.go|refine imp fun _=>?_|(refine need ?_ ?_;first|trivial|omega|exact ⟨by assumption,by omega⟩|(simp only [zL,zM];omega))|refine choT (by assumption) ?_|refine choF (by assumption) ?_|refine choF' (by assumption) ?_|(refine altT ?_ ?_;first|omega|(simp only [zL,zM];omega))|refine altF ?_|refine all fun _=>?_|refine both ?_ ?_|(refine choT ?_ ?_;omega)|(refine choF ?_ ?_;omega)|refine cho (fun _=>?_) fun _=>?_)|(with_reducible refine fact ?_ ?_;first|trivial|exact ⟨rfl,rfl⟩|kernel_rfl))
      exact again (i + 1) (by omega) ⟨by omega, by omega⟩ (by rw [hst]; exact Sub.refl _ _)
    · rw [if_neg h0] at hst
      have hf := hff (by omega)
      have hrl2 := hsi.1.tells.len
      have hF := Flush_ok b l (fit17 20 (news.getD i default)) .ro .ro (by omega) (by omega)
      unfold flushT at hF
      rw [if_pos ⟨hsi.1.right, hf⟩, if_pos (by omega)] at hF
      dsimp only at hF
      have hso := flush_all hsi.1 hf (by omega)
      have iF : ∀ {a c : AV} {m m' : SM} [h1 : IsL a tbF 36 l m] [h2 : IsL c En.av 4 (fit17 20 (news.getD i default)) m'], PC Go.Proofs.Try.prog 9 [trA b, a, c] True (.tuple [.lst 36 ((newT b 0 (fit17 20 (news.getD i default)) :: l).map tbF) .ro, I .i64 ((0 : Nat) : Int)]) := by
        intro a c m m' h1 h2
        exact ⟨fun _ => ⟨[trA b, .lst 36 (l.map tbF) .ro, .lst 4 ((fit17 20 (news.getD i default)).map En.av) .ro], ⟨SubV.refl _, fun R v hv => SubV.ro _ _ _ R v (h1.sub R v hv), fun R v hv => SubV.ro _ _ _ R v (h2.sub R v hv), trivial⟩, hF⟩⟩
      repeat' (first|with_reducible (first|apply Stp.go|refine imp fun _=>?_|(refine need ?_ ?_;first|trivial|omega|exact ⟨by assumption,by omega⟩|(simp only [zL,zM];omega))|refine choT (by assumption) ?_|refine choF (by assumption) ?_|refine choF' (by assumption) ?_|(refine altT ?_ ?_;first|omega|(simp only [zL,zM];omega))|refine altF ?_|refine all fun _=>?_|refine both ?_ ?_|(refine choT ?_ ?_;omega)|(refine choF ?_ ?_;omega)|refine cho (fun _=>?_) fun _=>?_)|(with_reducible refine fact ?_ ?_;first|trivial|exact ⟨rfl,rfl⟩|kernel_rfl))
      rename_i v0 v1
      refine loopI (β := Nat × List TabR × List (List En)) (fun x => StoreOk b x.2.1 x.2.2 ∧ x.2.1.length ≤ i + 1 ∧ x.1 ≤ cntM merges i ∧ mergesT b (cntM merges i - x.1) x.2 = storeT b news merges (i + 1))
        (fun x => [.lst 1 (news.map enL) m, .lst 1 (merges.map it) m', .rptr [I .i64 b], .lst 36 (x.2.1.map tbF) .ro, .lst 1 (x.2.2.map enL) .ro, I .i64 (i : Nat), I .i64 (x.1 : Nat)])
        (fun _ => []) (fun x => cntM merges i - x.1) (0, newT b 0 (fit17 20 (news.getD i default)) :: l, fit17 20 (news.getD i default) :: rows) ⟨hso, by dsimp only; rw [List.length_cons]; omega, Nat.zero_le _, hst.symm⟩
        (Sub.cons_same _ (Sub.cons_same _ (Sub.cons_same _ (Sub.cons_same _ (retOwn (Sub.app_nil _)))))) ?_
      rintro ⟨k, l2, rows2⟩ ⟨q1, q2, q3, q4⟩
      dsimp only at q1 q2 q3 q4 ⊢
      have hM := merged_ok b l2 rows2 q1
      have hcn : cntM merges i = if i < merges.length then (merges.getD i default % 4).toNat else 0 := rfl
      by_cases him : i < merges.length
      · rw [if_pos him] at hcn
        by_cases hk : k < cntM merges i
        · rw [show cntM merges i - k = (cntM merges i - (k + 1)) + 1 by omega] at q4
          unfold mergesT at q4
          unfold mergedR at hM
          have hk2 : k < (merges.getD i default % 4).toNat := by omega
          by_cases hlv : lvlT l2 < 3
          · rw [if_pos hlv] at q4 hM
            have iM : PC Go.Proofs.Try.prog 16 [trA b, .lst 36 (l2.map tbF) .ro, .lst 1 (rows2.map enL) .ro] True _ := ⟨fun _ => PC.of hM⟩
            have htt : (true : Bool) = true := rfl
            have hma := merged_all q1 hlv
            repeat' (first|with_reducible (first|apply Stp.go|refine imp fun _=>?_|(refine need ?_ ?_;first|trivial|omega|exact ⟨by assumption,by omega⟩|(simp only [zL,zM];omega))|refine choT (by assumption) ?_|refine choF (by assumption) ?_|refine choF' (by assumption) ?_|(refine altT ?_ ?_;first|omega|(simp only [zL,zM];omega))|refine altF ?_|refine all fun _=>?_|refine both ?_ ?_|(refine choT ?_ ?_;omega)|(refine choF ?_ ?_;omega)|refine cho (fun _=>?_) fun _=>?_)|(with_reducible refine fact ?_ ?_;first|trivial|exact ⟨rfl,rfl⟩|kernel_rfl))
            exact again (k + 1, mergedT b l2 rows2) (by dsimp only; omega) ⟨hma.1, by have := hma.2.1; dsimp only; omega, by dsimp only; omega, q4⟩ (Sub.refl _ _)
          · rw [if_neg hlv] at q4 hM
            have iM : PC Go.Proofs.Try.prog 16 [trA b, .lst 36 (l2.map tbF) .ro, .lst 1 (rows2.map enL) .ro] True _ := ⟨fun _ => PC.of hM⟩
            have hff : ¬ (false : Bool) = true := by decide
            repeat' (first|with_reducible (first|apply Stp.go|refine imp fun _=>?_|(refine need ?_ ?_;first|trivial|omega|exact ⟨by assumption,by omega⟩|(simp only [zL,zM];omega))|refine choT (by assumption) ?_|refine choF (by assumption) ?_|refine choF' (by assumption) ?_|(refine altT ?_ ?_;first|omega|(simp only [zL,zM];omega))|refine altF ?_|refine all fun _=>?_|refine both ?_ ?_|(refine choT ?_ ?_;omega)|(refine choF ?_ ?_;omega)|refine cho (fun _=>?_) fun _=>?_)|(with_reducible refine fact ?_ ?_;first|trivial|exact ⟨rfl,rfl⟩|kernel_rfl))
            exact again (i + 1) (by omega) ⟨by omega, by omega⟩ (by rw [← q4]; exact Sub.refl _ _)
        · have hk2 : ¬ k < (merges.getD i default % 4).toNat := by omega
          rw [show cntM merges i - k = 0 by omega] at q4
          repeat' (first|with_reducible (first|apply Stp.go|refine imp fun _=>?_|(refine need ?_ ?_;first|trivial|omega|exact ⟨by assumption,by omega⟩|(simp only [zL,zM];omega))|refine choT (by assumption) ?_|refine choF (by assumption) ?_|refine choF' (by assumption) ?_|(refine altT ?_ ?_;first|omega|(simp only [zL,zM];omega))|refine altF ?_|refine all fun _=>?_|refine both ?_ ?_|(refine choT ?_ ?_;omega)|(refine choF ?_ ?_;omega)|refine cho (fun _=>?_) fun _=>?_)|(with_reducible refine fact ?_ ?_;first|trivial|exact ⟨rfl,rfl⟩|kernel_rfl))
          exact again (i + 1) (by omega) ⟨by omega, by omega⟩ (by rw [← q4]; exact Sub.refl _ _)
      · rw [if_neg him] at hcn
        rw [show cntM merges i - k = 0 by omega] at q4
        repeat' (first|with_reducible (first|apply Stp.go|refine imp fun _=>?_|(refine need ?_ ?_;first|trivial|omega|exact ⟨by assumption,by omega⟩|(simp only [zL,zM];omega))|refine choT (by assumption) ?_|refine choF (by assumption) ?_|refine choF' (by assumption) ?_|(refine altT ?_ ?_;first|omega|(simp only [zL,zM];omega))|refine altF ?_|refine all fun _=>?_|refine both ?_ ?_|(refine choT ?_ ?_;omega)|(refine choF ?_ ?_;omega)|refine cho (fun _=>?_) fun _=>?_)|(with_reducible refine fact ?_ ?_;first|trivial|exact ⟨rfl,rfl⟩|kernel_rfl))
        exact again (i + 1) (by omega) ⟨by omega, by omega⟩ (by rw [← q4]; exact Sub.refl _ _)
  · have e : min news.length 14 = i := by omega
    rw [e]
    by_cases hi1 : i < news.length
    · repeat' (first|with_reducible (first|apply Stp.go|refine imp fun _=>?_|(refine need ?_ ?_;first|trivial|omega|exact ⟨by assumption,by omega⟩|(simp only [zL,zM];omega))|refine choT (by assumption) ?_|refine choF (by assumption) ?_|refine choF' (by assumption) ?_|(refine altT ?_ ?_;first|omega|(simp only [zL,zM];omega))|refine altF ?_|refine all fun _=>?_|refine both ?_ ?_|(refine choT ?_ ?_;omega)|(refine choF ?_ ?_;omega)|refine cho (fun _=>?_) fun _=>?_)|(with_reducible refine fact ?_ ?_;first|trivial|exact ⟨rfl,rfl⟩|kernel_rfl))
      all_goals exact ⟨_, _, _, rfl, Sub.refl _ _, rfl, rfl⟩
    · repeat' (first|with_reducible (first|apply Stp.go|refine imp fun _=>?_|(refine need ?_ ?_;first|trivial|omega|exact ⟨by assumption,by omega⟩|(simp only [zL,zM];omega))|refine choT (by assumption) ?_|refine choF (by assumption) ?_|refine choF' (by assumption) ?_|(refine altT ?_ ?_;first|omega|(simp only [zL,zM];omega))|refine altF ?_|refine all fun _=>?_|refine both ?_ ?_|(refine choT ?_ ?_;omega)|(refine choF ?_ ?_;omega)|refine cho (fun _=>?_) fun _=>?_)|(with_reducible refine fact ?_ ?_;first|trivial|exact ⟨rfl,rfl⟩|kernel_rfl))
      all_goals exact ⟨_, _, _, rfl, Sub.refl _ _, rfl, rfl⟩
end Go.Ab

/- Layer 17: MoveLevels. -/
set_option linter.unusedVariables false
set_option linter.unusedSimpArgs false
namespace Go.Ab
theorem inter_filter {α : Type} {p : α → Bool} : ∀ {s t o : List α}, Inter s t o → (∀ x ∈ t, p x = false) → o.filter p = s.filter p
  | _, _, _, .nil, _ => rfl
  | _, _, _, .left x h, hp => by rw [List.filter_cons, List.filter_cons, inter_filter h hp]
  | _, _, _, .right x h, hp => by
    rw [List.filter_cons, hp x List.mem_cons_self, inter_filter h fun y hy => hp y (List.mem_cons_of_mem _ hy)]
    rfl
/-- Whether a table is of neither level. -/
def offP (k : Nat) (x : TabR) : Bool := !decide (x.lev = ((k + 1 : Nat) : Int)) && !decide (x.lev = (k : Nat))
theorem stay_filter (l : List TabR) (k : Nat) : ∀ n, n ≤ l.length → (stayT l ((inK l k).map Int.ofNat) n).filter (offP k) = (l.take n).filter (offP k)
  | 0, _ => by simp [stayT]
  | n + 1, h => by
    rw [stayT_succ, take_succ_d (by omega), List.filter_append, List.filter_append, stay_filter l k n (by omega)]
    congr 1
    by_cases hn : ((n : Nat) : Int) ∈ (inK l k).map Int.ofNat
    · rw [if_pos hn, List.filter_nil, List.filter_cons_of_neg, List.filter_nil]
      have := in_lev (mem_map_nat.1 hn)
      unfold offP
      rcases this with h | h
      · rw [decide_eq_true (show (l.getD n default).lev = (k : Nat) from h)]; simp
      · rw [decide_eq_true (show (l.getD n default).lev = ((k + 1 : Nat) : Int) by rw [h]; rfl)]; simp
    · rw [if_neg hn]
theorem levels_same {b : Int} {l : List TabR} {k : Nat} {RS : List (List En)} (hr : rightT l = true) (hk : k < 3) (hR : RowsOf b l (inK l k) RS) : (nextT b l k RS).filter (offP k) = l.filter (offP k) := by
  have h3 := (next_all hr hk hR).2.2
  rw [inter_filter h3, stay_filter l k l.length (Nat.le_refl _), List.take_length]
  intro x hx
  obtain ⟨p, _, rfl⟩ := List.mem_map.1 hx
  unfold offP
  rw [decide_eq_true (show (newT b (k + 1) p).lev = ((k + 1 : Nat) : Int) from rfl)]
  rfl
theorem filter_succ_d {p : TabR → Bool} {l : List TabR} {i : Nat} (h : i < l.length) : (l.take (i + 1)).filter p = (l.take i).filter p ++ if p (l.getD i default) = true then [l.getD i default] else [] := by
  rw [take_succ_d h, List.filter_append]
  generalize l.getD i default = x
  by_cases hp : p x = true
  · rw [if_pos hp, List.filter_cons_of_pos hp, List.filter_nil]
  · rw [if_neg hp, List.filter_cons_of_neg hp, List.filter_nil]
def law17_MoveLevels.mark : Mark := ⟨fun t => Nat.beq t 23 || Nat.beq t 30 || Nat.beq t 42 || Nat.beq t 59 || Nat.beq t 183, fun t => false, fun t => false, fun t => Nat.beq t 83 || Nat.beq t 91 || Nat.beq t 100 || Nat.beq t 113 || Nat.beq t 121 || Nat.beq t 130 || Nat.beq t 142 || Nat.beq t 148 || Nat.beq t 158 || Nat.beq t 161 || Nat.beq t 169 || Nat.beq t 172, fun t => false⟩
def law17_MoveLevels.ann : Ann := ⟨fun n => bif Nat.beq n 15 then [9, 12, 13, 15, 18, 19, 20] else bif Nat.beq n 20 then [9, 12, 13, 15, 18, 19, 21] else bif Nat.beq n 25 then [9, 12, 13, 15, 18, 19, 22] else [], fun n => none, fun n => none⟩
/-- 'marlstone/marlstonelaw17.MoveLevels' -/
def law17_MoveLevels.sh (a0 a1 a2 : AV) (σ : Store) (Q : AEnd → Store → Prop) : Prop :=
  Do (aPureC Go.Proofs.Try.prog 7 []) fun t23 =>
  Do (aLit [.val (.int .i64 0)] [(0, 1)] [(0, a0)]) fun t25 =>
  aNewVar 30 [.val (.int .i64 0)] σ fun t8 σ =>
  storeA 1 t8 t25 σ fun u σ_1 =>
  Do (loadA true 1 t8 σ_1) fun t27 =>
  Do (aPureC Go.Proofs.Try.prog 13 [t27, a1, a2]) fun t30 =>
  Do (aExt t30 0) fun t31 =>
  Do (aExt t30 1) fun t32 =>
  Do (aExt t30 2) fun t33 =>
  Do (aUn Go.Proofs.Try.prog .not t23) fun t35 =>
  Do (aGuard t35 false (aIs t33)) fun t37 =>
  Do (aGuard t35 false (aUn Go.Proofs.Try.prog .not t37)) fun t38 =>
  Do (aPick t35 (.val (.bool true)) t38) fun t39 =>
  aCond t39
    (Q (.ret (.val (.bool false))) σ_1)
    (Do (aPureC Go.Proofs.Try.prog 15 [t31]) fun t42 =>
  Do (aExt t42 0) fun t43 =>
  Do (aExt t42 1) fun t44 =>
  Do (aExt t42 2) fun t45 =>
  Do (aUn Go.Proofs.Try.prog .not t45) fun t47 =>
  aCond t47
    (Do (aBuiltin Go.Proofs.Try.prog .len #[34] [t43]) fun t49 =>
    Do (aBin Go.Proofs.Try.prog .eql 3 t49 (.val (.int .i64 0))) fun t50 =>
    Do (aGuard t50 true (aIs t44)) fun t52 =>
    Do (aGuard t50 true (aBin Go.Proofs.Try.prog .eql 3 t52 (.val (.int .i64 0)))) fun t53 =>
    Do (aPick t50 t53 (.val (.bool false))) fun t54 =>
    Q (.ret t54) σ_1)
    (Do (loadA true 1 t8 σ_1) fun t56 =>
  Do (aPureC Go.Proofs.Try.prog 16 [t56, t31, t32]) fun t59 =>
  Do (aExt t59 0) fun t60 =>
  Do (aExt t59 1) fun t61 =>
  Do (aExt t59 2) fun t62 =>
  Do (aUn Go.Proofs.Try.prog .not t62) fun t64 =>
  Do (aGuard t64 false (aIs t44)) fun t66 =>
  Do (aGuard t64 false (aBin Go.Proofs.Try.prog .lss 3 t66 (.val (.int .i64 1)))) fun t67 =>
  Do (aPick t64 (.val (.bool true)) t67) fun t68 =>
  Do (aGuard t68 false (aIs t44)) fun t70 =>
  Do (aGuard t68 false (aBin Go.Proofs.Try.prog .gtr 3 t70 (.val (.int .i64 3)))) fun t71 =>
  Do (aPick t68 (.val (.bool true)) t71) fun t72 =>
  aCond t72
    (Q (.ret (.val (.bool false))) σ_1)
    (aLoop (fun go vs σ_2 =>
    At vs 0 fun s9 => At vs 1 fun s12 => At vs 2 fun s13 => At vs 3 fun s15 => At vs 4 fun s18 => At vs 5 fun s19 => At vs 6 fun s20 => Do (aBuiltin Go.Proofs.Try.prog .len #[22] [s9]) fun t75 =>
    Do (aBin Go.Proofs.Try.prog .lss 3 s20 t75) fun t76 =>
    aCond t76
      (Do (aIndexAddr .slice 36 s9 s20) fun t81 =>
    Do (aFieldAddr 0 1 t81) fun t82 =>
    Do (loadF false 1 t82) fun t83 =>
    Do (aBin Go.Proofs.Try.prog .neq 3 t83 s13) fun t85 =>
    Do (aGuard t85 true (aIs s9)) fun t87 =>
    Do (aGuard t85 true (aIs s20)) fun t88 =>
    Do (aGuard t85 true (aIndexAddr .slice 36 t87 t88)) fun t89 =>
    Do (aGuard t85 true (aFieldAddr 0 1 t89)) fun t90 =>
    Do (aGuard t85 true (loadF false 1 t90)) fun t91 =>
    Do (aGuard t85 true (aIs s13)) fun t92 =>
    Do (aGuard t85 true (aBin Go.Proofs.Try.prog .sub 3 t92 (.val (.int .i64 1)))) fun t93 =>
    Do (aGuard t85 true (aBin Go.Proofs.Try.prog .neq 3 t91 t93)) fun t94 =>
    Do (aPick t85 t94 (.val (.bool false))) fun t95 =>
    aCond t95
      (Do (aIndexAddr .slice 36 s9 s20) fun t99 =>
      Do (loadF true 36 t99) fun t100 =>
      Do (aSlLit (mkE [.val (.int .i64 0), .val (.int .i64 0), .val (.int .u8 0), .val (.int .u8 0), .val (.int .u8 0), .val (.int .u8 0), .val (.int .u8 0), .val (.int .u8 0), .val (.int .u8 0), .val (.int .u8 0), .val (.int .u8 0), .val (.int .u8 0), .val (.int .u8 0), .val (.int .u8 0), .val (.int .u8 0), .val (.int .u8 0), .val (.int .u8 0), .val (.int .u8 0), .val (.int .u8 0), .val (.int .u8 0), .val (.int .u8 0), .val (.int .u8 0), .val (.int .u8 0), .val (.int .u8 0), .val (.int .u8 0), .val (.int .u8 0), .val (.int .u8 0), .val (.int .u8 0), .val (.int .u8 0), .val (.int .u8 0), .val (.int .u8 0), .val (.int .u8 0), .val (.int .u8 0), .val (.int .u8 0), .val (.string ⟨#[]⟩), .val (.string ⟨#[]⟩)]) 36 1 [(0, t100)]) fun t101 =>
      aAppend 39 36 80 s18 t101 σ_2 (subK fun t102 σ_3 =>
      Do (aBin Go.Proofs.Try.prog .add 3 s20 (.val (.int .i64 1))) fun t78 =>
    go [s9, s12, s13, s15, t102, s19, t78] σ_3))
      (Do (aBin Go.Proofs.Try.prog .add 3 s20 (.val (.int .i64 1))) fun t78_1 =>
    go [s9, s12, s13, s15, s18, s19, t78_1] σ_2))
      (aLoop (fun go_1 vs_1 σ_4 =>
    At vs_1 0 fun s9_1 => At vs_1 1 fun s12_1 => At vs_1 2 fun s13_1 => At vs_1 3 fun s15_1 => At vs_1 4 fun s18_1 => At vs_1 5 fun s19_1 => At vs_1 6 fun s21 => Do (aBuiltin Go.Proofs.Try.prog .len #[22] [s15_1]) fun t105 =>
    Do (aBin Go.Proofs.Try.prog .lss 3 s21 t105) fun t106 =>
    aCond t106
      (Do (aIndexAddr .slice 36 s15_1 s21) fun t111 =>
    Do (aFieldAddr 0 1 t111) fun t112 =>
    Do (loadF false 1 t112) fun t113 =>
    Do (aBin Go.Proofs.Try.prog .neq 3 t113 s13_1) fun t115 =>
    Do (aGuard t115 true (aIs s15_1)) fun t117 =>
    Do (aGuard t115 true (aIs s21)) fun t118 =>
    Do (aGuard t115 true (aIndexAddr .slice 36 t117 t118)) fun t119 =>
    Do (aGuard t115 true (aFieldAddr 0 1 t119)) fun t120 =>
    Do (aGuard t115 true (loadF false 1 t120)) fun t121 =>
    Do (aGuard t115 true (aIs s13_1)) fun t122 =>
    Do (aGuard t115 true (aBin Go.Proofs.Try.prog .sub 3 t122 (.val (.int .i64 1)))) fun t123 =>
    Do (aGuard t115 true (aBin Go.Proofs.Try.prog .neq 3 t121 t123)) fun t124 =>
    Do (aPick t115 t124 (.val (.bool false))) fun t125 =>
    aCond t125
      (Do (aIndexAddr .slice 36 s15_1 s21) fun t129 =>
      Do (loadF true 36 t129) fun t130 =>
      Do (aSlLit (mkE [.val (.int .i64 0), .val (.int .i64 0), .val (.int .u8 0), .val (.int .u8 0), .val (.int .u8 0), .val (.int .u8 0), .val (.int .u8 0), .val (.int .u8 0), .val (.int .u8 0), .val (.int .u8 0), .val (.int .u8 0), .val (.int .u8 0), .val (.int .u8 0), .val (.int .u8 0), .val (.int .u8 0), .val (.int .u8 0), .val (.int .u8 0), .val (.int .u8 0), .val (.int .u8 0), .val (.int .u8 0), .val (.int .u8 0), .val (.int .u8 0), .val (.int .u8 0), .val (.int .u8 0), .val (.int .u8 0), .val (.int .u8 0), .val (.int .u8 0), .val (.int .u8 0), .val (.int .u8 0), .val (.int .u8 0), .val (.int .u8 0), .val (.int .u8 0), .val (.int .u8 0), .val (.int .u8 0), .val (.string ⟨#[]⟩), .val (.string ⟨#[]⟩)]) 36 1 [(0, t130)]) fun t131 =>
      aAppend 39 36 80 s19_1 t131 σ_4 (subK fun t132 σ_5 =>
      Do (aBin Go.Proofs.Try.prog .add 3 s21 (.val (.int .i64 1))) fun t108 =>
    go_1 [s9_1, s12_1, s13_1, s15_1, s18_1, t132, t108] σ_5))
      (Do (aBin Go.Proofs.Try.prog .add 3 s21 (.val (.int .i64 1))) fun t108_1 =>
    go_1 [s9_1, s12_1, s13_1, s15_1, s18_1, s19_1, t108_1] σ_4))
      (aLoop (fun go_2 vs_2 σ_6 =>
    At vs_2 0 fun s9_2 => At vs_2 1 fun s12_2 => At vs_2 2 fun s13_2 => At vs_2 3 fun s15_2 => At vs_2 4 fun s18_2 => At vs_2 5 fun s19_2 => At vs_2 6 fun s22 => Do (aBuiltin Go.Proofs.Try.prog .len #[34] [s12_2]) fun t135 =>
    Do (aBin Go.Proofs.Try.prog .lss 3 s22 t135) fun t136 =>
    aCond t136
      (Do (aIndexAddr .slice 1 s12_2 s22) fun t141 =>
    Do (loadF false 1 t141) fun t142 =>
    Do (aBin Go.Proofs.Try.prog .lss 3 t142 (.val (.int .i64 0))) fun t143 =>
    Do (aGuard t143 false (aIs s12_2)) fun t145 =>
    Do (aGuard t143 false (aIs s22)) fun t146 =>
    Do (aGuard t143 false (aIndexAddr .slice 1 t145 t146)) fun t147 =>
    Do (aGuard t143 false (loadF false 1 t147)) fun t148 =>
    Do (aGuard t143 false (aIs s9_2)) fun t149 =>
    Do (aGuard t143 false (aBuiltin Go.Proofs.Try.prog .len #[22] [t149])) fun t150 =>
    Do (aGuard t143 false (aBin Go.Proofs.Try.prog .geq 3 t148 t150)) fun t151 =>
    Do (aPick t143 (.val (.bool true)) t151) fun t152 =>
    Do (aGuard t152 false (aIs s9_2)) fun t154 =>
    Do (aGuard t152 false (aIs s12_2)) fun t155 =>
    Do (aGuard t152 false (aIs s22)) fun t156 =>
    Do (aGuard t152 false (aIndexAddr .slice 1 t155 t156)) fun t157 =>
    Do (aGuard t152 false (loadF false 1 t157)) fun t158 =>
    Do (aGuard t152 false (aIndexAddr .slice 36 t154 t158)) fun t159 =>
    Do (aGuard t152 false (aFieldAddr 0 1 t159)) fun t160 =>
    Do (aGuard t152 false (loadF false 1 t160)) fun t161 =>
    Do (aGuard t152 false (aIs s13_2)) fun t162 =>
    Do (aGuard t152 false (aBin Go.Proofs.Try.prog .neq 3 t161 t162)) fun t163 =>
    Do (aGuard t152 false (aIs t163)) fun t164 =>
    Do (aGuard t164 true (aIs s9_2)) fun t165 =>
    Do (aGuard t164 true (aIs s12_2)) fun t166 =>
    Do (aGuard t164 true (aIs s22)) fun t167 =>
    Do (aGuard t164 true (aIndexAddr .slice 1 t166 t167)) fun t168 =>
    Do (aGuard t164 true (loadF false 1 t168)) fun t169 =>
    Do (aGuard t164 true (aIndexAddr .slice 36 t165 t169)) fun t170 =>
    Do (aGuard t164 true (aFieldAddr 0 1 t170)) fun t171 =>
    Do (aGuard t164 true (loadF false 1 t171)) fun t172 =>
    Do (aGuard t164 true (aIs s13_2)) fun t173 =>
    Do (aGuard t164 true (aBin Go.Proofs.Try.prog .sub 3 t173 (.val (.int .i64 1)))) fun t174 =>
    Do (aGuard t164 true (aBin Go.Proofs.Try.prog .neq 3 t172 t174)) fun t175 =>
    Do (aGuard t152 false (aPick t164 t175 (.val (.bool false)))) fun t176 =>
    Do (aPick t152 (.val (.bool true)) t176) fun t177 =>
    aCond t177
      (Q (.ret (.val (.bool false))) σ_6)
      (Do (aBin Go.Proofs.Try.prog .add 3 s22 (.val (.int .i64 1))) fun t138 =>
    go_2 [s9_2, s12_2, s13_2, s15_2, s18_2, s19_2, t138] σ_6))
      (aCall Go.Proofs.Try.prog 11 [s18_2, s19_2] σ_6 (fun t180 σ_7 =>
  Do (aGuard t180 true (aIs s15_2)) fun t182 =>
  Do (aGuard t180 true (aPureC Go.Proofs.Try.prog 17 [t182])) fun t183 =>
  Do (aPick t180 t183 (.val (.bool false))) fun t184 =>
  Q (.ret t184) σ_7) (fun e σ_8 => Q (.pan e) σ_8)))
    [s9_1, s12_1, s13_1, s15_1, s18_1, s19_1, (.val (.int .i64 0))] σ_4))
    [s9, s12, s13, s15, s18, s19, (.val (.int .i64 0))] σ_2))
    [t31, t43, t44, t60, (.val (.slice none 0 0)), (.val (.slice none 0 0)), (.val (.int .i64 0))] σ_1)))
theorem law17_MoveLevels.eq (a0 a1 a2 : AV) (σ : Store) (Q : AEnd → Store → Prop) : vc (semOf Go.Proofs.Try.prog law17_MoveLevels.mark) Go.Proofs.Try.f6.ntmps law17_MoveLevels.ann (bodyOf Go.Proofs.Try.f6) (endK [.tmp 6] Q) (argFr [a0, a1, a2]) σ = law17_MoveLevels.sh a0 a1 a2 σ Q := by kernel_rfl
theorem law17_MoveLevels.go {a0 a1 a2 : AV} {σ : Store} {Q : AEnd → Store → Prop} (h : law17_MoveLevels.sh a0 a1 a2 σ Q) : ACalls Go.Proofs.Try.prog 6 [a0, a1, a2] σ Q :=
  acalls_of_eq [.tmp 6] Go.Proofs.Try.func6 (by kernel_rfl) (by kernel_rfl) (by kernel_rfl) (by kernel_rfl) (law17_MoveLevels.eq a0 a1 a2 σ Q) h
theorem MoveLevels_at (b : Int) (news : List (List En)) (m : SM) (merges : List Int) (m' : SM) (hn : news.length ≤ 9223372036854775807) (hm : merges.length ≤ 9223372036854775807) (hnl : ∀ r ∈ news, r.length ≤ 9223372036854775807) :
    aPure Go.Proofs.Try.prog 6 [I .i64 b, .lst 1 (news.map enL) m, .lst 1 (merges.map it) m'] (B true) := by
  refine ACalls.fin (law17_MoveLevels.go ?_)
  unfold law17_MoveLevels.sh
  have hs := store_all b news merges (min news.length 14) (by omega)
  have htt : (true : Bool) = true := rfl
  have hff : ¬ (false : Bool) = true := by decide
  have iS : ∀ {a c : AV} {m m' : SM} [h1 : IsL a enL 1 news m] [h2 : IsL c it 1 merges m'], PC Go.Proofs.Try.prog 13 [trA b, a, c] True
    (.tuple [.lst 36 ((storeT b news merges (min news.length 14)).1.map tbF) .ro, .lst 1 ((storeT b news merges (min news.length 14)).2.map enL) .ro, B true]) := by
    intro a c m m' h1 h2
    exact ⟨fun _ => ⟨[trA b, .lst 1 (news.map enL) m, .lst 1 (merges.map it) m'], ⟨SubV.refl _, h1.sub, h2.sub, trivial⟩, store_ok b news merges m m' hn hm hnl⟩⟩
  generalize storeT b news merges (min news.length 14) = s at *
  obtain ⟨l, rows⟩ := s
  dsimp only at hs iS
  have hI := Inputs_ok l .ro (by omega)
  unfold inputsR pickR at hI
  rw [if_pos hs.1.right] at hI
  by_cases hk : lvlT l < 3
  · rw [if_pos hk, map_itN] at hI
    have hM := merged_ok b l rows hs.1
    unfold mergedR at hM
    rw [if_pos hk] at hM
    have hma := merged_all hs.1 hk
    have hR := rowsIn_ok (k := lvlT l) hs.1
    have hsame := levels_same hs.1.right hk hR
    have hnr := hma.1.right
    have hnl := hma.2.1
    have hmI : ∀ j, j < (inK l (lvlT l)).length → (inK l (lvlT l)).getD j default < l.length := fun j hj => (inK_mem.1 (getD_memT hj)).1
    have hlI : ∀ j, j < (inK l (lvlT l)).length → (l.getD ((inK l (lvlT l)).getD j default) default).lev = (lvlT l : Nat) ∨ (l.getD ((inK l (lvlT l)).getD j default) default).lev = ((lvlT l + 1 : Nat) : Int) := fun j hj => by
      rcases in_lev (getD_memT hj) with h | h
      · exact .inl h
      · exact .inr (by rw [h]; rfl)
    have hIl : (inK l (lvlT l)).length ≤ l.length := Nat.le_trans (List.length_filter_le _ _) (by rw [List.length_range]; exact Nat.le_refl _)
    rw [show nextT b l (lvlT l) (rowsIn l (lvlT l) rows) = (mergedT b l rows).1 from rfl] at hsame
    generalize mergedT b l rows = y at *
    obtain ⟨nx, rows2⟩ := y
    dsimp only at hM hsame hnr hnl
    generalize hIn : inK l (lvlT l) = J at *
    generalize lvlT l = k at *
    have iI : PC Go.Proofs.Try.prog 15 [.lst 36 (l.map tbF) .ro] True _ := ⟨fun _ => PC.of hI⟩
    have iM : PC Go.Proofs.Try.prog 16 [trA b, .lst 36 (l.map tbF) .ro, .lst 1 (rows.map enL) .ro] True _ := ⟨fun _ => PC.of hM⟩
    repeat' (first|with_reducible (first|apply Stp.go|refine imp fun _=>?_|(refine need ?_ ?_;first|trivial|omega|exact ⟨by assumption,by omega⟩|(simp only [zL,zM];omega))|refine choT (by assumption) ?_|refine choF (by assumption) ?_|refine choF' (by assumption) ?_|(refine altT ?_ ?_;first|omega|(simp only [zL,zM];omega))|refine altF ?_|refine all fun _=>?_|refine both ?_ ?_|(refine choT ?_ ?_;omega)|(refine choF ?_ ?_;omega)|refine cho (fun _=>?_) fun _=>?_)|(with_reducible refine fact ?_ ?_;first|trivial|exact ⟨rfl,rfl⟩|kernel_rfl))
    refine loopI (β := Nat × Value) (fun x => x.1 ≤ l.length)
      (fun x => [.lst 36 (l.map tbF) .ro, .lst 1 (J.map itN) .ro, I .i64 (k + 1 : Nat), .lst 36 (nx.map tbF) .ro, .own x.2 ((l.take x.1).filter (offP k)).length, .val (.slice none 0 0), I .i64 (x.1 : Nat)])
      (fun x => [.row x.2 TbE 36 (((l.take x.1).filter (offP k)).map tbF) 0]) (fun x => l.length - x.1) (0, .slice none 0 0) (Nat.zero_le _) ?_ ?_
    · refine (Sub.app_nil _).trans (Sub.nil_own TbE (sz := 36) (by decide) _ [_, _, _, _] [_, _])
    rintro ⟨i, v⟩ h1
    dsimp only at h1 ⊢
    have hfl : ((l.take i).filter (offP k)).length ≤ 14 := Nat.le_trans (List.length_filter_le _ _) (by rw [List.length_take]; omega)
    by_cases hi : i < l.length
    · have hs1 := filter_succ_d (p := offP k) hi
      by_cases c1 : (l.getD i default).lev = ((k + 1 : Nat) : Int)
      · have ho : ¬ offP k (l.getD i default) = true := by unfold offP; rw [decide_eq_true c1]; exact Bool.false_ne_true
        rw [if_neg ho, List.append_nil] at hs1
        repeat' (first|with_reducible (first|apply Stp.go|refine imp fun _=>?_|(refine need ?_ ?_;first|trivial|omega|exact ⟨by assumption,by omega⟩|(simp only [zL,zM];omega))|refine choT (by assumption) ?_|refine choF (by assumption) ?_|refine choF' (by assumption) ?_|(refine altT ?_ ?_;first|omega|(simp only [zL,zM];omega))|refine altF ?_|refine all fun _=>?_|refine both ?_ ?_|(refine choT ?_ ?_;omega)|(refine choF ?_ ?_;omega)|refine cho (fun _=>?_) fun _=>?_)|(with_reducible refine fact ?_ ?_;first|trivial|exact ⟨rfl,rfl⟩|kernel_rfl))
        exact again (i + 1, v) (by dsimp only; omega) (by dsimp only; omega) (by dsimp only; rw [hs1]; exact Sub.refl _ _)
      · by_cases c2 : (l.getD i default).lev = ((k + 1 - 1 : Nat) : Int)
        · have ho : ¬ offP k (l.getD i default) = true := by unfold offP; rw [decide_eq_true (show (l.getD i default).lev = ((k : Nat) : Int) from c2), Bool.not_true, Bool.and_false]; exact Bool.false_ne_true
          rw [if_neg ho, List.append_nil] at hs1
          repeat' (first|with_reducible (first|apply Stp.go|refine imp fun _=>?_|(refine need ?_ ?_;first|trivial|omega|exact ⟨by assumption,by omega⟩|(simp only [zL,zM];omega))|refine choT (by assumption) ?_|refine choF (by assumption) ?_|refine choF' (by assumption) ?_|(refine altT ?_ ?_;first|omega|(simp only [zL,zM];omega))|refine altF ?_|refine all fun _=>?_|refine both ?_ ?_|(refine choT ?_ ?_;omega)|(refine choF ?_ ?_;omega)|refine cho (fun _=>?_) fun _=>?_)|(with_reducible refine fact ?_ ?_;first|trivial|exact ⟨rfl,rfl⟩|kernel_rfl))
          exact again (i + 1, v) (by dsimp only; omega) (by dsimp only; omega) (by dsimp only; rw [hs1]; exact Sub.refl _ _)
        · have ho : offP k (l.getD i default) = true := by unfold offP; rw [decide_eq_false c1, decide_eq_false (show ¬ (l.getD i default).lev = ((k : Nat) : Int) from c2)]; rfl
          rw [if_pos ho] at hs1
          repeat' (first|with_reducible (first|apply Stp.go|refine imp fun _=>?_|(refine need ?_ ?_;first|trivial|omega|exact ⟨by assumption,by omega⟩|(simp only [zL,zM];omega))|refine choT (by assumption) ?_|refine choF (by assumption) ?_|refine choF' (by assumption) ?_|(refine altT ?_ ?_;first|omega|(simp only [zL,zM];omega))|refine altF ?_|refine all fun _=>?_|refine both ?_ ?_|(refine choT ?_ ?_;omega)|(refine choF ?_ ?_;omega)|refine cho (fun _=>?_) fun _=>?_)|(with_reducible refine fact ?_ ?_;first|trivial|exact ⟨rfl,rfl⟩|kernel_rfl))
          rename_i w
          exact again (i + 1, w) (by dsimp only; omega) (by dsimp only; omega) (by dsimp only; rw [hs1]; exact Sub.refl _ _)
    · have e : i = l.length := by omega
      subst e
      rw [List.take_length] at hfl ⊢
      generalize hA : l.filter (offP k) = A at *
      repeat' (first|with_reducible (first|apply Stp.go|refine imp fun _=>?_|(refine need ?_ ?_;first|trivial|omega|exact ⟨by assumption,by omega⟩|(simp only [zL,zM];omega))|refine choT (by assumption) ?_|refine choF (by assumption) ?_|refine choF' (by assumption) ?_|(refine altT ?_ ?_;first|omega|(simp only [zL,zM];omega))|refine altF ?_|refine all fun _=>?_|refine both ?_ ?_|(refine choT ?_ ?_;omega)|(refine choF ?_ ?_;omega)|refine cho (fun _=>?_) fun _=>?_)|(with_reducible refine fact ?_ ?_;first|trivial|exact ⟨rfl,rfl⟩|kernel_rfl))
      refine loopI (β := Nat × Value) (fun x => x.1 ≤ nx.length)
        (fun x => [.lst 36 (l.map tbF) .ro, .lst 1 (J.map itN) .ro, I .i64 (k + 1 : Nat), .lst 36 (nx.map tbF) .ro, .own v A.length, .own x.2 ((nx.take x.1).filter (offP k)).length, I .i64 (x.1 : Nat)])
        (fun x => [.row x.2 TbE 36 (((nx.take x.1).filter (offP k)).map tbF) 0, .row v TbE 36 (A.map tbF) 0]) (fun x => nx.length - x.1) (0, .slice none 0 0) (Nat.zero_le _) (Sub.nil_own TbE (sz := 36) (by decide) _ [_, _, _, _, _] [_]) ?_
      rintro ⟨i, w⟩ h2
      dsimp only at h2 ⊢
      have hfn : ((nx.take i).filter (offP k)).length ≤ 14 := Nat.le_trans (List.length_filter_le _ _) (by rw [List.length_take]; omega)
      by_cases hi : i < nx.length
      · have hs1 := filter_succ_d (p := offP k) hi
        by_cases c1 : (nx.getD i default).lev = ((k + 1 : Nat) : Int)
        · have ho : ¬ offP k (nx.getD i default) = true := by unfold offP; rw [decide_eq_true c1]; exact Bool.false_ne_true
          rw [if_neg ho, List.append_nil] at hs1
          repeat' (first|with_reducible (first|apply Stp.go|refine imp fun _=>?_|(refine need ?_ ?_;first|trivial|omega|exact ⟨by assumption,by omega⟩|(simp only [zL,zM];omega))|refine choT (by assumption) ?_|refine choF (by assumption) ?_|refine choF' (by assumption) ?_|(refine altT ?_ ?_;first|omega|(simp only [zL,zM];omega))|refine altF ?_|refine all fun _=>?_|refine both ?_ ?_|(refine choT ?_ ?_;omega)|(refine choF ?_ ?_;omega)|refine cho (fun _=>?_) fun _=>?_)|(with_reducible refine fact ?_ ?_;first|trivial|exact ⟨rfl,rfl⟩|kernel_rfl))
          exact again (i + 1, w) (by dsimp only; omega) (by dsimp only; omega) (by dsimp only; rw [hs1]; exact Sub.refl _ _)
        · by_cases c2 : (nx.getD i default).lev = ((k + 1 - 1 : Nat) : Int)
          · have ho : ¬ offP k (nx.getD i default) = true := by unfold offP; rw [decide_eq_true (show (nx.getD i default).lev = ((k : Nat) : Int) from c2), Bool.not_true, Bool.and_false]; exact Bool.false_ne_true
            rw [if_neg ho, List.append_nil] at hs1
            repeat' (first|with_reducible (first|apply Stp.go|refine imp fun _=>?_|(refine need ?_ ?_;first|trivial|omega|exact ⟨by assumption,by omega⟩|(simp only [zL,zM];omega))|refine choT (by assumption) ?_|refine choF (by assumption) ?_|refine choF' (by assumption) ?_|(refine altT ?_ ?_;first|omega|(simp only [zL,zM];omega))|refine altF ?_|refine all fun _=>?_|refine both ?_ ?_|(refine choT ?_ ?_;omega)|(refine choF ?_ ?_;omega)|refine cho (fun _=>?_) fun _=>?_)|(with_reducible refine fact ?_ ?_;first|trivial|exact ⟨rfl,rfl⟩|kernel_rfl))
            exact again (i + 1, w) (by dsimp only; omega) (by dsimp only; omega) (by dsimp only; rw [hs1]; exact Sub.refl _ _)
          · have ho : offP k (nx.getD i default) = true := by unfold offP; rw [decide_eq_false c1, decide_eq_false (show ¬ (nx.getD i default).lev = ((k : Nat) : Int) from c2)]; rfl
            rw [if_pos ho] at hs1
            repeat' (first|with_reducible (first|apply Stp.go|refine imp fun _=>?_|(refine need ?_ ?_;first|trivial|omega|exact ⟨by assumption,by omega⟩|(simp only [zL,zM];omega))|refine choT (by assumption) ?_|refine choF (by assumption) ?_|refine choF' (by assumption) ?_|(refine altT ?_ ?_;first|omega|(simp only [zL,zM];omega))|refine altF ?_|refine all fun _=>?_|refine both ?_ ?_|(refine choT ?_ ?_;omega)|(refine choF ?_ ?_;omega)|refine cho (fun _=>?_) fun _=>?_)|(with_reducible refine fact ?_ ?_;first|trivial|exact ⟨rfl,rfl⟩|kernel_rfl))
            rename_i w2
            exact again (i + 1, w2) (by dsimp only; omega) (by dsimp only; omega) (by dsimp only; rw [hs1]; exact Sub.refl _ _)
      · have e : i = nx.length := by omega
        subst e
        rw [List.take_length, hsame] at hfn ⊢
        repeat' (first|with_reducible (first|apply Stp.go|refine imp fun _=>?_|(refine need ?_ ?_;first|trivial|omega|exact ⟨by assumption,by omega⟩|(simp only [zL,zM];omega))|refine choT (by assumption) ?_|refine choF (by assumption) ?_|refine choF' (by assumption) ?_|(refine altT ?_ ?_;first|omega|(simp only [zL,zM];omega))|refine altF ?_|refine all fun _=>?_|refine both ?_ ?_|(refine choT ?_ ?_;omega)|(refine choF ?_ ?_;omega)|refine cho (fun _=>?_) fun _=>?_)|(with_reducible refine fact ?_ ?_;first|trivial|exact ⟨rfl,rfl⟩|kernel_rfl))
        refine loopI (β := Nat) (fun j => j ≤ J.length)
          (fun j => [.lst 36 (l.map tbF) .ro, .lst 1 (J.map itN) .ro, I .i64 (k + 1 : Nat), .lst 36 (nx.map tbF) .ro, .own v A.length, .own w A.length, I .i64 (j : Nat)])
          (fun _ => [.row w TbE 36 (A.map tbF) 0, .row v TbE 36 (A.map tbF) 0]) (fun j => J.length - j) 0 (Nat.zero_le _) (Sub.refl _ _) ?_
        intro j hj
        by_cases hjl : j < J.length
        · have g1 := hmI j hjl
          rcases hlI j hjl with g2 | g2
          · have g3 : ¬ (l.getD (J.getD j default) default).lev = ((k + 1 : Nat) : Int) := by omega
            have g4 : (l.getD (J.getD j default) default).lev = ((k + 1 - 1 : Nat) : Int) := g2
            repeat' (first|with_reducible (first|apply Stp.go|refine imp fun _=>?_|(refine need ?_ ?_;first|trivial|omega|exact ⟨by assumption,by omega⟩|(simp only [zL,zM];omega))|refine choT (by assumption) ?_|refine choF (by assumption) ?_|refine choF' (by assumption) ?_|(refine altT ?_ ?_;first|omega|(simp only [zL,zM];omega))|refine altF ?_|refine all fun _=>?_|refine both ?_ ?_|(refine choT ?_ ?_;omega)|(refine choF ?_ ?_;omega)|refine cho (fun _=>?_) fun _=>?_)|(with_reducible refine fact ?_ ?_;first|trivial|exact ⟨rfl,rfl⟩|kernel_rfl))
            exact again (j + 1) (by omega) (by omega) (Sub.refl _ _)
          · repeat' (first|with_reducible (first|apply Stp.go|refine imp fun _=>?_|(refine need ?_ ?_;first|trivial|omega|exact ⟨by assumption,by omega⟩|(simp only [zL,zM];omega))|refine choT (by assumption) ?_|refine choF (by assumption) ?_|refine choF' (by assumption) ?_|(refine altT ?_ ?_;first|omega|(simp only [zL,zM];omega))|refine altF ?_|refine all fun _=>?_|refine both ?_ ?_|(refine choT ?_ ?_;omega)|(refine choF ?_ ?_;omega)|refine cho (fun _=>?_) fun _=>?_)|(with_reducible refine fact ?_ ?_;first|trivial|exact ⟨rfl,rfl⟩|kernel_rfl))
            exact again (j + 1) (by omega) (by omega) (Sub.refl _ _)
        · have hAA : A = A := rfl
          repeat' (first|with_reducible (first|apply Stp.go|refine imp fun _=>?_|(refine need ?_ ?_;first|trivial|omega|exact ⟨by assumption,by omega⟩|(simp only [zL,zM];omega))|refine choT (by assumption) ?_|refine choF (by assumption) ?_|refine choF' (by assumption) ?_|(refine altT ?_ ?_;first|omega|(simp only [zL,zM];omega))|refine altF ?_|refine all fun _=>?_|refine both ?_ ?_|(refine choT ?_ ?_;omega)|(refine choF ?_ ?_;omega)|refine cho (fun _=>?_) fun _=>?_)|(with_reducible refine fact ?_ ?_;first|trivial|exact ⟨rfl,rfl⟩|kernel_rfl))
          rw [hnr]
          exact ⟨_, _, _, rfl, Sub.app_nil _, rfl, rfl⟩
  · rw [if_neg hk] at hI
    have iI : PC Go.Proofs.Try.prog 15 [.lst 36 (l.map tbF) .ro] True _ := ⟨fun _ => PC.of hI⟩
    have hz : ([] : List Int).length = 0 := rfl
    repeat' (first|with_reducible (first|apply Stp.go|refine imp fun _=>?_|(refine need ?_ ?_;first|trivial|omega|exact ⟨by assumption,by omega⟩|(simp only [zL,zM];omega))|refine choT (by assumption) ?_|refine choF (by assumption) ?_|refine choF' (by assumption) ?_|(refine altT ?_ ?_;first|omega|(simp only [zL,zM];omega))|refine altF ?_|refine all fun _=>?_|refine both ?_ ?_|(refine choT ?_ ?_;omega)|(refine choF ?_ ?_;omega)|refine cho (fun _=>?_) fun _=>?_)|(with_reducible refine fact ?_ ?_;first|trivial|exact ⟨rfl,rfl⟩|kernel_rfl))
    all_goals exact ⟨_, _, _, rfl, Sub.app_nil _, rfl, rfl⟩
theorem MoveLevels_ok (b : Int) (news : List (List En)) (m : SM) (merges : List Int) (m' : SM) (hb : (Lit.int .i64 b).wf = true) (hn : (∀ a ∈ news, (∀ e ∈ a, e.key.length ≤ maxLen ∧ e.val.length ≤ maxLen) ∧ a.length ≤ maxLen) ∧ news.length ≤ maxLen) (hm : (∀ n ∈ merges, (Lit.int .i64 n).wf = true) ∧ merges.length ≤ maxLen) :
    aPure Go.Proofs.Try.prog 6 [I .i64 b, .lst 1 (news.map enL) m, .lst 1 (merges.map it) m'] (B true) :=
  MoveLevels_at b news m merges m' (by have := hn.2; simpa [maxLen] using this) (by have := hm.2; simpa [maxLen] using this) (fun r hr => by have := (hn.1 r hr).2; simpa [maxLen] using this)
end Go.Ab
