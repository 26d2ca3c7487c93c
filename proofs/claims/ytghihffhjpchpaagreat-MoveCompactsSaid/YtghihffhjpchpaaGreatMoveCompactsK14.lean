/- The texts that this claim needs, part 14: a logic over abstract values, its steps, what the functions do. No condition of its own. -/
import Derived.Shelf.SlSortCmp.NoneTotal
import Derived.Test.YtghihffhjpchpaaGreatMoveCompactsK13
set_option linter.unusedVariables false
set_option linter.unusedSimpArgs false
namespace Go.Ab
open Go.Proofs
open Go.Proofs Go.Shelf Go.RowKit Go.Lib Go.Sort
theorem isNaN_walk (x : ByteArray) (W : World) : Calls Tryz.prog 139 #[.string x] W fun e w' => e = .returned (.bool false) ∧ w' = W := by
 go_enter Tryz.func139, Tryz.ntmps139
 go_wp2
 go_ret
 exact ⟨rfl, rfl⟩
set_option maxHeartbeats 1000000 in
theorem compare_walk (a b : List UInt8) (W : World) : Calls Tryz.prog 114 #[.string ⟨a.toArray⟩, .string ⟨b.toArray⟩] W fun e w' => e = .returned (.int .i64 (cmpK a b)) ∧ w' = W := by
 have h86 := isNaN_walk
 have hg : ∀ w, (binOp .gtr 9 (.string ⟨a.toArray⟩) (.string ⟨b.toArray⟩)).run Tryz.prog w = .ok (.bool (!(Op.bytesLess a b || decide (a = b)))) w := fun w => by simp [binOp, Op.stringOp, bdec]
 have hl : Op.bytesLess (⟨a.toArray⟩ : ByteArray).toList (⟨b.toArray⟩ : ByteArray).toList = Op.bytesLess a b := by simp
 go_enter Tryz.func114, Tryz.ntmps114
 go_wp2_with (go_at_call 139; refine (h86 _ _).mono ?_; rintro e w' ⟨rfl, rfl⟩)
 all_goals go_ret
 all_goals refine ⟨?_, rfl⟩
 all_goals simp_all [cmpK, lt]
def enc (e : En) : List Value := [.string ⟨e.key.toArray⟩, .string ⟨e.val.toArray⟩, .bool e.del, .int .i64 e.seq]
theorem byKey_walk (x y : En) (W : World) : Calls Tryz.prog 80 #[.agg (enc x).toArray, .agg (enc y).toArray] W fun e w' => e = .returned (.int .i64 (cmpK x.key y.key)) ∧ ∃ q os', w' = grow (W.drewN q) os' := by
 have hcon := fun W' => compare_walk x.key y.key W'
 simp only [enc]
 generalize cmpK x.key y.key = r at hcon ⊢
 go_enter Tryz.func80, Tryz.ntmps80
 go_wp2_with (go_at_call 114; refine (hcon _).mono ?_; rintro e w' ⟨rfl, rfl⟩)
 go_ret
 exact ⟨rfl, 0, _, by rw [alloc_eq_grow, alloc_eq_grow, grow_grow]; rfl⟩
theorem ltOf_key (x y : En) : ltOf (fun x y : En => cmpK x.key y.key) x y = lt x.key y.key := by
 unfold ltOf
 cases h : lt x.key y.key with
 | true => simp [cmpK, h]
 | false => have := (cmpK_neg x.key y.key).2 h; simp; omega
theorem swo_key : SWO (ltOf fun x y : En => cmpK x.key y.key) where
 irrefl x := by rw [ltOf_key, lt_irrefl]
 trans x y z h1 h2 := by rw [ltOf_key] at *; exact lt_trans' h1 h2
 ntrans x y z h1 h2 := by
  rw [ltOf_key] at *
  cases h : lt x.key z.key with
  | false => rfl
  | true => rw [lt_of_ge h1 h] at h2; cases h2
theorem flat_enc (l : List En) : flat (l.map En.av) = (l.flatMap enc).map .val := by
 induction l with
 | nil => rfl
 | cons e l ih =>
  simp only [List.map_cons, List.flatMap_cons, List.map_append, ← ih]
  rfl
theorem flatK_enc (d : Array En) : (flatK enc 4 d).toList = d.toList.flatMap enc := by
 obtain ⟨l, rfl⟩ : ∃ l, d = List.toArray l := ⟨d.toList, by simp⟩
 have hf : ∀ l : List En, (l.flatMap enc).length = l.length * 4 := fun l => by
  induction l with
  | nil => rfl
  | cons e l ih => simp only [List.flatMap_cons, List.length_append, ih, List.length_cons, enc, List.length_nil]; omega
 have hg : ∀ (l : List En) (t : Nat), t < l.length * 4 → (l.flatMap enc)[t]? = some ((enc (l.getD (t / 4) default))[t % 4]!) := by
  intro l
  induction l with
  | nil => intro t ht; simp at ht
  | cons e l ih =>
   intro t ht
   rcases Nat.lt_or_ge t 4 with h4 | h4
   ·rw [List.flatMap_cons, List.getElem?_append_left (by simpa [enc] using h4)]
    have e1 : t / 4 = 0 := by omega
    have e2 : t % 4 = t := by omega
    rw [e1, e2, List.getD_cons_zero, List.getElem!_eq_getElem?_getD, List.getElem?_eq_getElem (by simpa [enc] using h4)]
    rfl
   ·rw [List.flatMap_cons, List.getElem?_append_right (by simpa [enc] using h4)]
    have e3 : (enc e).length = 4 := rfl
    obtain ⟨u, rfl⟩ : ∃ u, t = u + 4 := ⟨t - 4, by omega⟩
    have e1 : (u + 4) / 4 = u / 4 + 1 := by omega
    have e2 : (u + 4) % 4 = u % 4 := by omega
    rw [e3, Nat.add_sub_cancel, e1, e2, List.getD_cons_succ]
    exact ih u (by simp at ht; omega)
 apply List.ext_getElem?
 intro t
 rcases Nat.lt_or_ge t (l.length * 4) with h | h
 ·rw [show (List.toArray l).toList = l from rfl, hg l t h]
  have hs : t < (flatK enc 4 l.toArray).size := by simpa using h
  have := get_flatK enc 4 l.toArray t (by simpa using h)
  rw [getElem!_pos _ t hs] at this
  rw [Array.getElem?_toList, Array.getElem?_eq_getElem hs, this]
  simp [List.getD_eq_getElem?_getD, Array.getElem!_eq_getD, Array.getD]
  by_cases h4 : t / 4 < l.length <;> simp [h4]
 ·rw [List.getElem?_eq_none (by simpa using h), List.getElem?_eq_none (by rw [hf]; exact h)]
theorem flatMap_enc_length : ∀ l : List En, (l.flatMap enc).length = l.length * 4
 | [] => rfl
 | e :: l => by simp only [List.flatMap_cons, List.length_append, flatMap_enc_length l, List.length_cons, enc, List.length_nil]; omega
theorem enc_one (l : List En) : ∀ v ∈ l.flatMap enc, v.oneCell' = true := by
 intro v hv
 obtain ⟨e, _, h⟩ := List.mem_flatMap.1 hv
 simp only [enc, List.mem_cons, List.not_mem_nil, or_false] at h
 rcases h with rfl | rfl | rfl | rfl <;> rfl
theorem grown_grow (w : World) (os : Array Obj) : w.grownBy (grow w os) none := ⟨rfl, rfl, rfl, by simp, fun k hk _ => heap_grow_old w os hk⟩
theorem body_sort : HasBody Tryz.prog 51 := ⟨Tryz.f51, _, by kernel_rfl, rfl, by kernel_rfl⟩
theorem sort_of (cf : FuncId) (eg : ∀ args w, (callFunc cf args).run Tryz.prog w = .ok (.enter cf args) w) (hcf : ∀ (x y : En) (W : World), Calls Tryz.prog cf #[.agg (enc x).toArray, .agg (enc y).toArray] W fun e w' => e = .returned (.int .i64 (cmpK x.key y.key)) ∧ ∃ q os', w' = grow (W.drewN q) os') (l : List En) (v : Value) (σ1 σ2 : Store) (hlen : l.length < 4611686018427387904) : ACalls Tryz.prog 51 [.own v l.length, .val (.func (.func cf) #[] #[])] (σ1 ++ .row v 50 4 (l.map En.av) 0 :: σ2)
  fun x σ' => ∃ l' : List En, (l'.Perm l ∧ l'.Pairwise fun a b => lt b.key a.key = false) ∧ x = .ret (.tuple []) ∧ σ' = σ1 ++ .row v 50 4 (l'.map En.av) 0 :: σ2 := by
 refine ⟨body_sort, fun R w vs hv hs => ?_⟩
 obtain ⟨hvl, hvr⟩ := hv
 match vs, hvl with
 | [x, y], _ =>
  have hx := (hvr 0 _ x rfl rfl).own_inv.1
  have hy := (hvr 1 _ y rfl rfl).val_inv
  subst hx; subst hy
  obtain ⟨h1, h2, ⟨xs, hown, hxs, hone⟩, hmx, hR⟩ := hs.ents (.row x 50 4 (l.map En.av) 0) (by simp)
  have hxs' : xs = l.flatMap enc := VRs.toVals (by rw [← flat_enc]; exact hxs)
  subst hxs'
  obtain ⟨hlx, hown⟩ := hown.plain (by decide)
  rw [List.length_map] at hlx hown
  rcases hown with ⟨rfl, h0⟩ | ⟨g, cap, cur, rfl, hg0, hg, hnc, hcap, hsz, hcur⟩
  ·have hl0 : l = [] := List.length_eq_zero_iff.1 h0
   subst hl0
   refine (AnyF.slices_SortFunc_none Tryz.sortEn none 0 _ w).mono ?_
   rintro e w' ⟨rfl, rfl⟩
   exact ⟨.ret (.tuple []), R, _, VR.tuple' (VRs.nil R), ⟨[], ⟨List.Perm.refl _, List.Pairwise.nil⟩, rfl, rfl⟩, hs, Ext.refl _ _ _⟩
  ·have hgl : g < w.heap.size := by
    rcases Nat.lt_or_ge g w.heap.size with h | h
    ·exact h
    ·rw [Array.getElem?_eq_none h] at hg; cases hg
   have hfk := flatK_enc l.toArray
   have hH : HoldsK enc 4 w g 0 l.toArray := by
    intro j hj
    have hj' : j < l.length * 4 := by simpa using hj
    have hc : cur.toList[j]? = (l.flatMap enc)[j]? := by
     rw [← hcur, List.getElem?_take, if_pos hj']
    have hc2 : cur[j]? = some ((flatK enc 4 l.toArray)[j]!) := by
     rw [← Array.getElem?_toList, hc, ← hfk, Array.getElem?_toList, getElem!_pos _ j hj, Array.getElem?_eq_getElem hj]
    exact ⟨by simp only [World.cell?, hg, Nat.zero_add]; simpa using hc2, by simp [World.frozen?, hg]⟩
   have hcon := AnyQ.slices_SortFunc Tryz.sortEn 4 Tryz.isAgg50 Tryz.sizeOf50 enc (fun _ => rfl) (fun e u hu => enc_one [e] u (by simpa using hu)) (fun x y => cmpK x.key y.key) swo_key cf #[] g 0 cap l.toArray w eg (fun _ _ _ _ x y => hcf x y _) hH hgl (by simpa using hlen)
   refine hcon.mono ?_
   rintro e w' ⟨rfl, d', n, os, hp, hso, rfl⟩
   obtain ⟨hds, _, hpm⟩ := hp
   have hds : d'.size = l.length := by simpa using hds
   have hperm : d'.toList.Perm l := by
    have h3 := hpm
    simp only [List.size_toArray, ← hds, Array.extract_size] at h3
    rw [hds, show l.length = l.toArray.size from rfl, Array.extract_size] at h3
    exact h3
   have hpw : d'.toList.Pairwise fun a b => lt b.key a.key = false := by
    rw [List.pairwise_iff_getElem]
    intro i j hi hj hij
    have := hso i j (Nat.zero_le _) hij (by simpa [← hds] using hj)
    rw [ltOf_key, getElem!_pos d' j (by simpa using hj), getElem!_pos d' i (by simpa using hi)] at this
    simpa using this
   obtain ⟨cur', hcur'⟩ : ∃ c, c = putCells id 0 (flatK enc 4 d') cur := ⟨_, rfl⟩
   have hmod : ∀ k, (putRowK enc 4 (Go.Sort.ahead w n) g 0 d').heap[k]? = if k = g then some (.cells cur' 50 (0, 0)) else w.heap[k]? := by
    intro k
    show (w.heap.modify g _)[k]? = _
    rw [Array.getElem?_modify]
    by_cases hk : k = g
    ·subst hk
     rw [if_pos rfl, if_pos rfl, hg, hcur']
     rfl
    ·rw [if_neg (fun h => hk h.symm), if_neg hk]
   have htake : cur'.toList.take (l.length * 4) = d'.toList.flatMap enc := by
    rw [← flatK_enc, hcur']
    apply List.ext_getElem?
    intro t
    have hfs : (flatK enc 4 d').size = l.length * 4 := by simp [hds]
    have hcs : l.length * 4 ≤ cur.size := by rw [hsz]; exact Nat.mul_le_mul_right 4 hnc
    rcases Nat.lt_or_ge t (l.length * 4) with h | h
    ·rw [List.getElem?_take, if_pos h, Array.getElem?_toList, Array.getElem?_toList]
     unfold putCells
     rw [Array.getElem?_mapIdx, Array.getElem?_eq_getElem (by omega : t < cur.size), Array.getElem?_eq_getElem (by omega : t < (flatK enc 4 d').size)]
     simp only [Option.map_some, Nat.zero_le, true_and, Nat.zero_add, Nat.sub_zero, id_eq]
     rw [if_pos (by omega), getElem!_pos _ t (by omega)]
    ·rw [List.getElem?_eq_none (by simp; omega), List.getElem?_eq_none (by simp; omega)]
   have hcs' : cur'.size = cap * 4 := by rw [hcur']; simp [putCells, hsz]
   have hE : EntOk R (putRowK enc 4 (Go.Sort.ahead w n) g 0 d') (.row (.slice (some ⟨g, 0, none⟩) l.length cap) 50 4 (d'.toList.map En.av) 0) := by
    refine ⟨h1, fun e he => ?_, ⟨d'.toList.flatMap enc, rowM.of ⟨?_, .inr ⟨g, cap, cur', ?_, hg0, ?_, ?_, hcap, hcs', ?_⟩⟩, ?_, enc_one _⟩, ?_, fun a x ha hb => ?_⟩
    ·obtain ⟨e0, _, rfl⟩ := List.mem_map.1 he
     rfl
    ·rw [flatMap_enc_length]; simp
    ·simp [hds]
    ·rw [hmod, if_pos rfl]
    ·simpa [hds] using hnc
    ·simpa [hds] using htake
    ·rw [flat_enc]; exact VRs.ofVals R _
    ·simpa [hds] using hmx
    ·have := hR a x ha hb
     omega
   have hst := st_change (b := g) (e' := .row (.slice (some ⟨g, 0, none⟩) l.length cap) 50 4 (d'.toList.map En.av) 0) hs rfl rfl (w' := putRowK enc 4 (Go.Sort.ahead w n) g 0 d') rfl rfl rfl (by show (w.heap.modify g _).size = _; simp) (fun k hk => by rw [hmod, if_neg hk]) (fun a x ha hb => by
    have := hR a x ha (by simp [Value.ownBlock, hb])
    omega) hE
   obtain ⟨q1, q2⟩ := hst
   obtain ⟨q3, q4⟩ := st_roNew q1 (grown_grow _ os)
   exact ⟨.ret (.tuple []), _, _, VR.tuple' (VRs.nil _), ⟨d'.toList, ⟨hperm, hpw⟩, rfl, rfl⟩, q3, q2.trans q4⟩
theorem sort_ok (l : List En) (v : Value) (σ1 σ2 : Store) (hlen : l.length < 4611686018427387904) : ACalls Tryz.prog 51 [.own v l.length, .val (.func (.func 80) #[] #[])] (σ1 ++ .row v 50 4 (l.map En.av) 0 :: σ2)
  fun x σ' => ∃ l' : List En, (l'.Perm l ∧ l'.Pairwise fun a b => lt b.key a.key = false) ∧ x = .ret (.tuple []) ∧ σ' = σ1 ++ .row v 50 4 (l'.map En.av) 0 :: σ2 :=
 sort_of _ (enters_of Tryz.func80 (by kernel_rfl) rfl) byKey_walk l v σ1 σ2 hlen
instance sortQ {l : List En} {v : Value} {n : Nat} {σ rest : Store} {put : Ent → Store} [hr : RowAt v σ 50 4 (l.map En.av) 0 put rest] :
  EQ Tryz.prog 51 [.own v n, .val (.func (.func 80) #[] #[])] σ (n = l.length ∧ l.length < 4611686018427387904) (List En) (fun l' => l'.Perm l ∧ l'.Pairwise fun a b => lt b.key a.key = false) (fun _ => .tuple []) (fun l' => put (.row v 50 4 (l'.map En.av) 0)) := ⟨fun ⟨h1, h2⟩ => by
 obtain ⟨σ1, σ2, e, e2, _⟩ := hr.at_
 subst h1; subst e
 simp only [e2]
 exact sort_ok l v σ1 σ2 h2⟩
end Go.Ab

namespace Go.Ab
open Go.Proofs
def entry_Fold.mark : Mark := ⟨fun t => false, fun t => false, fun t => false, fun t => Nat.beq t 17, fun t => Nat.beq t 40⟩
def entry_Fold.ann : Ann := ⟨fun n => bif Nat.beq n 3 then [3, 12, 13, 14] else bif Nat.beq n 11 then [8, 43] else [], fun n => none, fun n => none⟩
def entry_Fold.sh (a0 : AV) (σ : Store) (Q : AEnd → Store → Prop) : Prop :=
 aHook (eMakeMap σ) fun t11 σ =>
 Do (aBuiltin Tryz.prog .len #[33] [a0]) fun t13 =>
 aLoop (fun go vs σ_1 =>
 At vs 0 fun s3 => At vs 1 fun s12 => At vs 2 fun s13 => At vs 3 fun s14 => Do (aBin Tryz.prog .lss 3 s14 s13) fun t15 =>
 aCond t15
 (Do (aIndexAddr .slice 4 s12 s14) fun t16 =>
 Do (loadF true 4 t16) fun t17 =>
 aNewVar 50 [.val (.string ⟨#[]⟩), .val (.string ⟨#[]⟩), .val (.bool false), .val (.int .i64 0)] σ_1 fun t5 σ_2 =>
 storeA 4 t5 t17 σ_2 fun u σ_3 =>
 Do (aFieldAddr 0 1 t5) fun t20 =>
 Do (loadA false 1 t20 σ_3) fun t21 =>
 Do (lookA Tryz.prog 82 true s3 t21 σ_3) fun t22 =>
 Do (aExt t22 0) fun t23 =>
 Do (aExt t22 1) fun t24 =>
 aNewVar 50 [.val (.string ⟨#[]⟩), .val (.string ⟨#[]⟩), .val (.bool false), .val (.int .i64 0)] σ_3 fun t6 σ_4 =>
 storeA 4 t6 t23 σ_4 fun u_1 σ_5 =>
 Do (aUn Tryz.prog .not t24) fun t26 =>
 Do (aGuard t26 false (aFieldAddr 3 1 t5)) fun t28 =>
 Do (aGuard t26 false (loadA false 1 t28 σ_5)) fun t29 =>
 Do (aGuard t26 false (aFieldAddr 3 1 t6)) fun t30 =>
 Do (aGuard t26 false (loadA false 1 t30 σ_5)) fun t31 =>
 Do (aGuard t26 false (aBin Tryz.prog .geq 3 t29 t31)) fun t32 =>
 Do (aPick t26 (.val (.bool true)) t32) fun t33 =>
 aCond t33
 (Do (aFieldAddr 0 1 t5) fun t35 =>
 Do (loadA false 1 t35 σ_5) fun t36 =>
 Do (loadA true 4 t5 σ_5) fun t37 =>
 aHook (eMapUpd Tryz.prog 82 s3 t36 t37 σ_5) fun u_2 σ_6 =>
 Do (aBin Tryz.prog .add 3 s14 (.val (.int .i64 1))) fun t38 =>
 go [s3, s12, s13, t38] σ_6)
 (Do (aBin Tryz.prog .add 3 s14 (.val (.int .i64 1))) fun t38_1 =>
 go [s3, s12, s13, t38_1] σ_5))
 (Do (lenMA Tryz.prog 82 s3 σ_1) fun t40 =>
 aMake 50 [(.string ⟨#[]⟩), (.string ⟨#[]⟩), (.bool false), (.int .i64 0)] 4 48 (.val (.int .i64 0)) t40 σ_1 (subK fun t41 σ_7 =>
 aHook (eRange Tryz.prog 82 s3 σ_7) fun t43 σ_8 =>
 aLoop (fun go_1 vs_1 σ_9 =>
 At vs_1 0 fun s8 => At vs_1 1 fun s43 => aHook (eNext s43 σ_9) fun t44 σ_10 =>
 Do (aExt t44 0) fun t45 =>
 aCond t45
 (Do (entryA s43 σ_10) fun t46 =>
 Do (aExt t46 1) fun t47 =>
 aNewVar 50 [.val (.string ⟨#[]⟩), .val (.string ⟨#[]⟩), .val (.bool false), .val (.int .i64 0)] σ_10 fun t10 σ_11 =>
 storeA 4 t10 t47 σ_11 fun u_3 σ_12 =>
 Do (loadA true 4 t10 σ_12) fun t49 =>
 Do (aSlLit (mkE [.val (.string ⟨#[]⟩), .val (.string ⟨#[]⟩), .val (.bool false), .val (.int .i64 0)]) 4 1 [(0, t49)]) fun t50 =>
 aAppend 50 4 48 s8 t50 σ_12 (subK fun t51 σ_13 =>
 go_1 [t51, s43] σ_13))
 (aCall Tryz.prog 51 [s8, (.val (.func (.func 80) #[] #[]))] σ_10 (fun t53 σ_14 =>
 Q (.ret s8) σ_14) (fun e σ_15 => Q (.pan e) σ_15)))
 [t41, t43] σ_8)))
 [t11, a0, t13, (.val (.int .i64 0))] σ
theorem entry_Fold.eq (a0 : AV) (σ : Store) (Q : AEnd → Store → Prop) : vc (semOf Tryz.prog entry_Fold.mark) Tryz.f45.ntmps entry_Fold.ann (bodyOf Tryz.f45) (endK [.tmp 2] Q) (argFr [a0]) σ = entry_Fold.sh a0 σ Q := by kernel_rfl
theorem entry_Fold.go {a0 : AV} {σ : Store} {Q : AEnd → Store → Prop} (h : entry_Fold.sh a0 σ Q) : ACalls Tryz.prog 45 [a0] σ Q :=
 acalls_of_eq [.tmp 2] Tryz.func45 (by kernel_rfl) (by kernel_rfl) (by kernel_rfl) (by kernel_rfl) (entry_Fold.eq a0 σ Q) h
theorem Fold_ok (l : List En) (m : SM) (hl : l.length ≤ 1000000000) : ACalls Tryz.prog 45 [.lst 4 (l.map En.av) m] [] fun x σ' => ∃ v, x = .ret (.own v (foldE l).length) ∧ σ' = [.row v 50 4 ((foldE l).map En.av) 0] := by
 refine ACalls.fin (entry_Fold.go ?_)
 unfold entry_Fold.sh
 repeat' (with_reducible first|apply Stp.go|refine imp fun _=>?_|refine zq ?_|refine zt ?_|refine zf ?_|refine zg ?_|refine za ?_|refine altF ?_|refine all fun _=>?_|refine both ?_ ?_|(refine hyp ?_ ?_;first|assumption|exact leftT_mem (by assumption))|refine zu ?_|refine zv ?_|refine cho (fun _=>?_) fun _=>?_|refine zw ?_)
 rename_i mb
 refine loopI (β := Nat × List (Nat × List UInt8 × En) × Nat) (fun x => x.1 ≤ l.length ∧ Tbl x.2.1 x.2.2 (foldE (l.take x.1)) ∧ x.2.1.length ≤ x.1) (fun x => [.val (.map (some mb)), .lst 4 (l.map En.av) m, I .i64 (l.length : Nat), I .i64 (x.1 : Nat)])
  (fun x => [.map mb (mkM keyS En.av x.2.1) x.2.2]) (fun x => l.length - x.1) (0, [], 0) ⟨Nat.zero_le _, Tbl.nil, Nat.le_refl _⟩ (Sub.refl _ _) ?_
 rintro ⟨i, L, c⟩ ⟨hi, ht, hL⟩
 dsimp only at hi ht hL ⊢
 have hF := foldE_rises (l.take i)
 by_cases hlt : i < l.length
 ·have hs := foldE_take_succ hlt
  have hset := ht.set hF (e := l.getD i default)
  have hkeep := fun x => ht.keep hF (e := l.getD i default) (x := x)
  have hsl := setT_length (l.getD i default).key (l.getD i default) c L
  rw [← hs] at hset hkeep
  repeat' (with_reducible first|apply Stp.go|refine imp fun _=>?_|refine zq ?_|refine zt ?_|refine zf ?_|refine zg ?_|refine za ?_|refine altF ?_|refine all fun _=>?_|refine both ?_ ?_|(refine hyp ?_ ?_;first|assumption|exact leftT_mem (by assumption))|refine zu ?_|refine zv ?_|refine cho (fun _=>?_) fun _=>?_|refine zw ?_)
  ·rename_i h1 h2
   refine again (i + 1, setT (l.getD i default).key (l.getD i default) c L, bif hasT (l.getD i default).key L then c else c + 1) (by dsimp only; omega) ⟨by dsimp only; omega, hset fun x hx => by rw [hx] at h2; exact h2, by dsimp only; omega⟩ ?_
   exact subS _
  ·rename_i h1 h2
   obtain ⟨x, hx⟩ := Option.isSome_iff_exists.1 h1
   rw [hx] at h2
   refine again (i + 1, L, c) (by dsimp only; omega) ⟨by dsimp only; omega, hkeep x hx h2, by dsimp only; omega⟩ ?_
   exact subS _
  ·rename_i h1
   refine again (i + 1, setT (l.getD i default).key (l.getD i default) c L, bif hasT (l.getD i default).key L then c else c + 1) (by dsimp only; omega) ⟨by dsimp only; omega, hset fun x hx => by rw [hx] at h1; exact absurd rfl h1, by dsimp only; omega⟩ ?_
   exact subS _
 ·have e : l.take i = l := List.take_of_length_le (by omega)
  rw [e] at ht hF
  repeat' (with_reducible first|apply Stp.go|refine imp fun _=>?_|refine zq ?_|refine zt ?_|refine zf ?_|refine zg ?_|refine za ?_|refine altF ?_|refine all fun _=>?_|refine both ?_ ?_|(refine hyp ?_ ?_;first|assumption|exact leftT_mem (by assumption))|refine zu ?_|refine zv ?_|refine cho (fun _=>?_) fun _=>?_|refine zw ?_)
  rename_i v0 it
  refine loopI (β := Value × List En × List Nat) (fun x => (x.2.1 ++ (leftT L x.2.2).map (·.2.2)).Perm (L.map (·.2.2))) (fun x => [.own x.1 x.2.1.length, ptrAt it 0])
   (fun x => [.iter it mb c x.2.2 c, .row x.1 50 4 (x.2.1.map En.av) 0, .map mb (mkM keyS En.av L) c]) (fun x => (leftT L x.2.2).length) (v0, [], []) ?_ (Sub.refl _ _) ?_
  ·dsimp only
   rw [left_nil]
   exact List.Perm.refl _
  ·rintro ⟨v, o, seen⟩ hp
   dsimp only at hp ⊢
   have hol : o.length ≤ L.length := by
    have := hp.length_eq
    simp only [List.length_append, List.length_map] at this
    omega
   repeat' (with_reducible first|apply Stp.go|refine imp fun _=>?_|refine zq ?_|refine zt ?_|refine zf ?_|refine zg ?_|refine za ?_|refine altF ?_|refine all fun _=>?_|refine both ?_ ?_|(refine hyp ?_ ?_;first|assumption|exact leftT_mem (by assumption))|refine zu ?_|refine zv ?_|refine cho (fun _=>?_) fun _=>?_|refine zw ?_)
   ·rename_i h0 o' hq
    rw [h0, List.map_nil, List.append_nil] at hp
    have e1 : o' = foldE l := ht.sorted hF (hq.1.trans hp) hq.2
    have e2 : o.length = (foldE l).length := by rw [← e1]; exact hq.1.length_eq.symm
    subst e1
    exact ⟨_, _, _, rfl, subS _, v, by rw [e2], rfl⟩
   ·rename_i x hx t w
    have hlt := left_take ht.nb hx
    refine again (w, o ++ [x.2.2], seen ++ [x.1]) ?_ ?_ ?_
    ·have := hlt.length_eq
     simp only [List.length_cons] at this
     dsimp only
     omega
    ·dsimp only
     rw [List.append_assoc]
     exact ((((hlt.map (·.2.2)).symm).append_left o)).trans hp
    ·exact subS _
theorem Fold_pure (l : List En) (m : SM) (hl : l.length ≤ 1000000000) : aPure Tryz.prog 45 [.lst 4 (l.map En.av) m] (.lst 4 ((foldE l).map En.av) .ro) :=
 ACalls.fin ((Fold_ok l m hl).mono fun x τ ⟨v, e1, e2⟩ => ⟨_, _, _, e1, by rw [e2]; exact retOwn (Sub.refl _ _), rfl, rfl⟩)
instance {a : AV} {l : List En} {m : SM} [h : IsL a En.av 4 l m] : PC Tryz.prog 45 [a] (l.length ≤ 1000000000) (.lst 4 ((foldE l).map En.av) .ro) := ⟨fun hl => ⟨[.lst 4 (l.map En.av) m], ⟨h.sub, trivial⟩, Fold_pure l m hl⟩⟩
end Go.Ab

namespace Go.Ab
open Go.Proofs
def fit17 (k : Nat) (l : List En) : List En := ((foldE ((l.take 30).map (cutE 130 200))).filter right).take k
theorem fit17_fit {k : Nat} {l : List En} (hk : k ≤ 64) (h : 0 < (fit17 k l).length) : fit (fit17 k l) = true := by
 refine fit_of h (by unfold fit17; rw [List.length_take]; omega) (((foldE_rises _).sublist List.filter_sublist).sublist (List.take_sublist _ _)) fun e he => ?_
 have := List.mem_of_mem_take he
 exact (List.mem_filter.1 this).2
theorem fit17_len (k : Nat) (l : List En) : (fit17 k l).length ≤ k := by unfold fit17; rw [List.length_take]; omega
def law17_fit.mark : Mark := ⟨fun t => Nat.beq t 9 || Nat.beq t 10 || Nat.beq t 27, fun t => false, fun t => false, fun t => Nat.beq t 26 || Nat.beq t 32, fun t => false⟩
def law17_fit.ann : Ann := ⟨fun n => bif Nat.beq n 4 then [1, 5, 6, 7] else [], fun n => none, fun n => none⟩
def law17_fit.sh (a0 a1 : AV) (σ : Store) (Q : AEnd → Store → Prop) : Prop :=
 Do (aPureC Tryz.prog 12 [a0, (.val (.int .i64 30))]) fun t9 =>
 Do (aPureC Tryz.prog 45 [t9]) fun t10 =>
 aLoop (fun go vs σ =>
 At vs 0 fun s1 => At vs 1 fun s5 => At vs 2 fun s6 => At vs 3 fun s7 => Do (aBuiltin Tryz.prog .len #[33] [s6]) fun t13 =>
 Do (aBin Tryz.prog .lss 3 s7 t13) fun t14 =>
 Do (aGuard t14 true (aIs s5)) fun t16 =>
 Do (aGuard t14 true (aBuiltin Tryz.prog .len #[33] [t16])) fun t17 =>
 Do (aGuard t14 true (aIs s1)) fun t18 =>
 Do (aGuard t14 true (aBin Tryz.prog .lss 3 t17 t18)) fun t19 =>
 Do (aPick t14 t19 (.val (.bool false))) fun t20 =>
 aCond t20
 (Do (aIndexAddr .slice 4 s6 s7) fun t25 =>
 Do (loadF true 4 t25) fun t26 =>
 Do (aPureC Tryz.prog 46 [t26]) fun t27 =>
 aCond t27
 (Do (aIndexAddr .slice 4 s6 s7) fun t31 =>
 Do (loadF true 4 t31) fun t32 =>
 Do (aSlLit (mkE [.val (.string ⟨#[]⟩), .val (.string ⟨#[]⟩), .val (.bool false), .val (.int .i64 0)]) 4 1 [(0, t32)]) fun t33 =>
 aAppend 50 4 48 s5 t33 σ (subK fun t34 σ_1 =>
 Do (aBin Tryz.prog .add 3 s7 (.val (.int .i64 1))) fun t22 =>
 go [s1, t34, s6, t22] σ_1))
 (Do (aBin Tryz.prog .add 3 s7 (.val (.int .i64 1))) fun t22_1 =>
 go [s1, s5, s6, t22_1] σ))
 (Q (.ret s5) σ))
 [a1, (.val (.slice none 0 0)), t10, (.val (.int .i64 0))] σ
theorem law17_fit.eq (a0 a1 : AV) (σ : Store) (Q : AEnd → Store → Prop) : vc (semOf Tryz.prog law17_fit.mark) Tryz.f19.ntmps law17_fit.ann (bodyOf Tryz.f19) (endK [.tmp 4] Q) (argFr [a0, a1]) σ = law17_fit.sh a0 a1 σ Q := by kernel_rfl
theorem law17_fit.go {a0 a1 : AV} {σ : Store} {Q : AEnd → Store → Prop} (h : law17_fit.sh a0 a1 σ Q) : ACalls Tryz.prog 19 [a0, a1] σ Q :=
 acalls_of_eq [.tmp 4] Tryz.func19 (by kernel_rfl) (by kernel_rfl) (by kernel_rfl) (by kernel_rfl) (law17_fit.eq a0 a1 σ Q) h
theorem fit17_ok (l : List En) (m : SM) (k : Nat) (hl : l.length ≤ 9223372036854775807) (hk : k ≤ 1000) : aPure Tryz.prog 19 [.lst 4 (l.map En.av) m, I .i64 (k : Nat)] (.lst 4 ((fit17 k l).map En.av) .ro) := by
 refine ACalls.fin (law17_fit.go ?_)
 unfold law17_fit.sh
 obtain ⟨L, hL⟩ : ∃ L, L = (l.take 30).map (cutE 130 200) := ⟨_, rfl⟩
 have h70 : L.length ≤ 30 := by rw [hL]; simp; omega
 have hf := foldE_length L
 repeat' (with_reducible first|apply Stp.go|refine imp fun _=>?_|refine zq ?_|refine zt ?_|refine zf ?_|refine zg ?_|refine za ?_|refine altF ?_|refine all fun _=>?_|refine both ?_ ?_|refine zu ?_|refine zv ?_|refine cho (fun _=>?_) fun _=>?_|refine zw ?_)
 unfold fit17
 rw [← hL] at *
 generalize foldE L = F at *
 refine loopI (β := Nat × Value) (fun x => x.1 ≤ F.length ∧ ((F.take x.1).filter right).length ≤ k) (fun x => [I .i64 (k : Nat), .own x.2 ((F.take x.1).filter right).length, .lst 4 (F.map En.av) .ro, I .i64 (x.1 : Nat)]) (fun x => [.row x.2 50 4 (((F.take x.1).filter right).map En.av) 0]) (fun x => F.length - x.1) (0, .slice none 0 0) ⟨Nat.zero_le _, by simp⟩ (Sub.nil_own 50 (by decide) _ [_] [_, _]) ?_
 rintro ⟨i, v⟩ ⟨hi, h64⟩
 dsimp only at hi h64 ⊢
 have hfin : (i = F.length ∨ ((F.take i).filter right).length = k) → (F.filter right).take k = (F.take i).filter right := by
  intro h
  have hs : F.filter right = (F.take i).filter right ++ (F.drop i).filter right := by rw [← List.filter_append, List.take_append_drop]
  rw [hs]
  rcases h with h | h
  ·rw [h, List.drop_length, List.filter_nil, List.append_nil, List.take_of_length_le (by rw [← h]; exact h64)]
  ·rw [List.take_append_of_le_length (by omega), List.take_of_length_le (by omega)]
 by_cases hlt : i < F.length
 ·have hs : (F.take (i + 1)).filter right = (F.take i).filter right ++ (if right (F.getD i default) = true then [F.getD i default] else []) := by
   rw [take_succ_d hlt, List.filter_append]
   generalize F.getD i default = y
   by_cases hy : right y = true <;> simp [hy]
  by_cases hc : ((F.take i).filter right).length < k
  ·repeat' (with_reducible first|apply Stp.go|refine imp fun _=>?_|refine zq ?_|refine zt ?_|refine zf ?_|refine zg ?_|refine za ?_|refine altF ?_|refine all fun _=>?_|refine both ?_ ?_|refine zu ?_|refine zv ?_|refine cho (fun _=>?_) fun _=>?_|refine zw ?_)
   ·rename_i hr w
    rw [if_pos hr] at hs
    refine again (i + 1, w) (by dsimp only; omega) ⟨by dsimp only; omega, ?_⟩ ?_
    ·dsimp only
     rw [hs, List.length_append]
     simp only [List.length_cons, List.length_nil]
     omega
    ·dsimp only
     rw [hs]
     exact Sub.refl _ _
   ·rename_i hr
    rw [if_neg hr, List.append_nil] at hs
    refine again (i + 1, v) (by dsimp only; omega) ⟨by dsimp only; omega, ?_⟩ ?_
    ·dsimp only
     rw [hs]
     exact h64
    ·dsimp only
     rw [hs]
     exact Sub.refl _ _
  ·rw [hfin (.inr (by omega))]
   repeat' (with_reducible first|apply Stp.go|refine imp fun _=>?_|refine zq ?_|refine zt ?_|refine zf ?_|refine zg ?_|refine za ?_|refine altF ?_|refine all fun _=>?_|refine both ?_ ?_|refine zu ?_|refine zv ?_|refine cho (fun _=>?_) fun _=>?_|refine zw ?_)
   exact ⟨_, _, _, rfl, retOwn (Sub.refl _ _), rfl, rfl⟩
 ·rw [hfin (.inl (by omega))]
  repeat' (with_reducible first|apply Stp.go|refine imp fun _=>?_|refine zq ?_|refine zt ?_|refine zf ?_|refine zg ?_|refine za ?_|refine altF ?_|refine all fun _=>?_|refine both ?_ ?_|refine zu ?_|refine zv ?_|refine cho (fun _=>?_) fun _=>?_|refine zw ?_)
  exact ⟨_, _, _, rfl, retOwn (Sub.refl _ _), rfl, rfl⟩
instance {a : AV} {l : List En} {m : SM} {k : Nat} {x : Int} [h : IsL a En.av 4 l m] [hk : NatOf x k] : PC Tryz.prog 19 [a, .val (.int .i64 x)] (l.length ≤ 9223372036854775807 ∧ k ≤ 1000) (.lst 4 ((fit17 k l).map En.av) .ro) := ⟨fun hl => by rw [hk.eq]; exact ⟨[.lst 4 (l.map En.av) m, I .i64 (k : Nat)], ⟨h.sub, SubVs.refl _⟩, fit17_ok l m k hl.1 hl.2⟩⟩
def law17_placed.mark : Mark := ⟨fun t => false, fun t => false, fun t => false, fun t => Nat.beq t 39 || Nat.beq t 104, fun t => false⟩
def law17_placed.ann : Ann := ⟨fun n => bif Nat.beq n 4 then [0, 1, 2, 3, 4, 5, 13, 14, 15] else bif Nat.beq n 8 then [0, 1, 2, 3, 4, 5, 13, 14, 15, 16, 17] else bif Nat.beq n 18 then [3, 4, 5, 13, 14, 18, 19, 20, 21] else [], fun n => none, fun n => none⟩
def law17_placed.sh (a0 a1 a2 a3 a4 a5 : AV) (σ : Store) (Q : AEnd → Store → Prop) : Prop :=
 aLoop (fun go vs σ =>
 At vs 0 fun s0 => At vs 1 fun s1 => At vs 2 fun s2 => At vs 3 fun s3 => At vs 4 fun s4 => At vs 5 fun s5 => At vs 6 fun s13 => At vs 7 fun s14 => At vs 8 fun s15 => Do (aBuiltin Tryz.prog .len #[24] [s0]) fun t24 =>
 Do (aBin Tryz.prog .lss 3 s15 t24) fun t25 =>
 aCond t25
 (aLoop (fun go_1 vs_1 σ_1 =>
 At vs_1 0 fun s0_1 => At vs_1 1 fun s1_1 => At vs_1 2 fun s2_1 => At vs_1 3 fun s3_1 => At vs_1 4 fun s4_1 => At vs_1 5 fun s5_1 => At vs_1 6 fun s13_1 => At vs_1 7 fun s14_1 => At vs_1 8 fun s15_1 => At vs_1 9 fun s16 => At vs_1 10 fun s17 => Do (aBuiltin Tryz.prog .len #[23] [s2_1]) fun t30 =>
 Do (aBin Tryz.prog .lss 3 s17 t30) fun t31 =>
 aCond t31
 (Do (aGuard s16 false (aIs s2_1)) fun t36 =>
 Do (aGuard s16 false (aIs s17)) fun t37 =>
 Do (aGuard s16 false (aIndexAddr .slice 1 t36 t37)) fun t38 =>
 Do (aGuard s16 false (loadF false 1 t38)) fun t39 =>
 Do (aGuard s16 false (aIs s15_1)) fun t40 =>
 Do (aGuard s16 false (aBin Tryz.prog .eql 3 t39 t40)) fun t41 =>
 Do (aPick s16 (.val (.bool true)) t41) fun t42 =>
 Do (aBin Tryz.prog .add 3 s17 (.val (.int .i64 1))) fun t33 =>
 go_1 [s0_1, s1_1, s2_1, s3_1, s4_1, s5_1, s13_1, s14_1, s15_1, t42, t33] σ_1)
 (Do (aUn Tryz.prog .not s16) fun t44 =>
 Do (aGuard t44 true (aIs s15_1)) fun t46 =>
 Do (aGuard t44 true (aIs s1_1)) fun t47 =>
 Do (aGuard t44 true (aBuiltin Tryz.prog .len #[22] [t47])) fun t48 =>
 Do (aGuard t44 true (aBin Tryz.prog .lss 3 t46 t48)) fun t49 =>
 Do (aPick t44 t49 (.val (.bool false))) fun t50 =>
 aCond t50
 (Do (aIndexAddr .slice 1 s1_1 s15_1) fun t54 =>
 Do (loadA false 1 t54 σ_1) fun t55 =>
 Do (aSlLit (mkE [.val (.slice none 0 0)]) 1 1 [(0, t55)]) fun t56 =>
 aAppend 33 1 24 s13_1 t56 σ_1 (subK fun t57 σ_2 =>
 Do (aIndexAddr .slice 36 s0_1 s15_1) fun t61 =>
 Do (loadA true 36 t61 σ_2) fun t62 =>
 Do (aSlLit (mkE [.val (.int .i64 0), .val (.int .i64 0), .val (.int .u8 0), .val (.int .u8 0), .val (.int .u8 0), .val (.int .u8 0), .val (.int .u8 0), .val (.int .u8 0), .val (.int .u8 0), .val (.int .u8 0), .val (.int .u8 0), .val (.int .u8 0), .val (.int .u8 0), .val (.int .u8 0), .val (.int .u8 0), .val (.int .u8 0), .val (.int .u8 0), .val (.int .u8 0), .val (.int .u8 0), .val (.int .u8 0), .val (.int .u8 0), .val (.int .u8 0), .val (.int .u8 0), .val (.int .u8 0), .val (.int .u8 0), .val (.int .u8 0), .val (.int .u8 0), .val (.int .u8 0), .val (.int .u8 0), .val (.int .u8 0), .val (.int .u8 0), .val (.int .u8 0), .val (.int .u8 0), .val (.int .u8 0), .val (.string ⟨#[]⟩), .val (.string ⟨#[]⟩)]) 36 1 [(0, t62)]) fun t63 =>
 aAppend 58 36 80 s14_1 t63 σ_2 (subK fun t64 σ_3 =>
 Do (aBin Tryz.prog .add 3 s15_1 (.val (.int .i64 1))) fun t27 =>
 go [s0_1, s1_1, s2_1, s3_1, s4_1, s5_1, t57, t64, t27] σ_3)))
 (Do (aBin Tryz.prog .add 3 s15_1 (.val (.int .i64 1))) fun t27_1 =>
 go [s0_1, s1_1, s2_1, s3_1, s4_1, s5_1, s13_1, s14_1, t27_1] σ_1)))
 [s0, s1, s2, s3, s4, s5, s13, s14, s15, (.val (.bool false)), (.val (.int .i64 0))] σ)
 (aLoop (fun go_2 vs_2 σ_4 =>
 At vs_2 0 fun s3_2 => At vs_2 1 fun s4_2 => At vs_2 2 fun s5_2 => At vs_2 3 fun s13_2 => At vs_2 4 fun s14_2 => At vs_2 5 fun s18 => At vs_2 6 fun s19 => At vs_2 7 fun s20 => At vs_2 8 fun s21 => Do (aBuiltin Tryz.prog .len #[24] [s5_2]) fun t67 =>
 Do (aBin Tryz.prog .lss 3 s21 t67) fun t68 =>
 aCond t68
 (Do (aBuiltin Tryz.prog .len #[22] [s4_2]) fun t73 =>
 Do (aBin Tryz.prog .lss 3 s20 t73) fun t74 =>
 Do (aGuard t74 true (aIs s5_2)) fun t76 =>
 Do (aGuard t74 true (aIs s21)) fun t77 =>
 Do (aGuard t74 true (aIndexAddr .slice 36 t76 t77)) fun t78 =>
 Do (aGuard t74 true (aFieldAddr 0 1 t78)) fun t79 =>
 Do (aGuard t74 true (loadA false 1 t79 σ_4)) fun t80 =>
 Do (aGuard t74 true (aIs s3_2)) fun t81 =>
 Do (aGuard t74 true (aBin Tryz.prog .eql 3 t80 t81)) fun t82 =>
 Do (aPick t74 t82 (.val (.bool false))) fun t83 =>
 Do (aGuard t83 true (aIs s4_2)) fun t85 =>
 Do (aGuard t83 true (aIs s20)) fun t86 =>
 Do (aGuard t83 true (aIndexAddr .slice 1 t85 t86)) fun t87 =>
 Do (aGuard t83 true (loadA false 1 t87 σ_4)) fun t88 =>
 Do (aGuard t83 true (aBuiltin Tryz.prog .len #[33] [t88])) fun t89 =>
 Do (aGuard t83 true (aBin Tryz.prog .gtr 3 t89 (.val (.int .i64 0)))) fun t90 =>
 Do (aPick t83 t90 (.val (.bool false))) fun t91 =>
 Do (aGuard t91 true (aIs s5_2)) fun t93 =>
 Do (aGuard t91 true (aIs s21)) fun t94 =>
 Do (aGuard t91 true (aIndexAddr .slice 36 t93 t94)) fun t95 =>
 Do (aGuard t91 true (aFieldAddr 34 1 t95)) fun t96 =>
 Do (aGuard t91 true (loadA false 1 t96 σ_4)) fun t97 =>
 Do (aGuard t91 true (aIs s4_2)) fun t98 =>
 Do (aGuard t91 true (aIs s20)) fun t99 =>
 Do (aGuard t91 true (aIndexAddr .slice 1 t98 t99)) fun t100 =>
 Do (aGuard t91 true (loadA false 1 t100 σ_4)) fun t101 =>
 Do (aGuard t91 true (aIndexAddr .slice 4 t101 (.val (.int .i64 0)))) fun t102 =>
 Do (aGuard t91 true (aFieldAddr 0 1 t102)) fun t103 =>
 Do (aGuard t91 true (loadF false 1 t103)) fun t104 =>
 Do (aGuard t91 true (aBin Tryz.prog .eql 9 t97 t104)) fun t105 =>
 Do (aPick t91 t105 (.val (.bool false))) fun t106 =>
 Do (aGuard t106 true (aIs s19)) fun t108 =>
 Do (aGuard t106 true (aIs s14_2)) fun t109 =>
 Do (aGuard t106 true (aBuiltin Tryz.prog .len #[24] [t109])) fun t110 =>
 Do (aGuard t106 true (aBin Tryz.prog .geq 3 t108 t110)) fun t111 =>
 Do (aGuard t106 true (aIs t111)) fun t112 =>
 Do (aGuard t112 false (aIs s5_2)) fun t113 =>
 Do (aGuard t112 false (aIs s21)) fun t114 =>
 Do (aGuard t112 false (aIndexAddr .slice 36 t113 t114)) fun t115 =>
 Do (aGuard t112 false (loadA true 36 t115 σ_4)) fun t116 =>
 Do (aGuard t112 false (aIs s14_2)) fun t117 =>
 Do (aGuard t112 false (aIs s19)) fun t118 =>
 Do (aGuard t112 false (aIndexAddr .slice 36 t117 t118)) fun t119 =>
 Do (aGuard t112 false (loadA true 36 t119 σ_4)) fun t120 =>
 Do (aGuard t112 false (aBin Tryz.prog .neq 58 t116 t120)) fun t121 =>
 Do (aGuard t106 true (aPick t112 (.val (.bool true)) t121)) fun t122 =>
 Do (aPick t106 t122 (.val (.bool false))) fun t123 =>
 aCond t123
 (Do (aIndexAddr .slice 1 s4_2 s20) fun t127 =>
 Do (loadA false 1 t127 σ_4) fun t128 =>
 Do (aSlLit (mkE [.val (.slice none 0 0)]) 1 1 [(0, t128)]) fun t129 =>
 aAppend 33 1 24 s18 t129 σ_4 (subK fun t130 σ_5 =>
 Do (aBin Tryz.prog .add 3 s20 (.val (.int .i64 1))) fun t132 =>
 Do (aBin Tryz.prog .add 3 s21 (.val (.int .i64 1))) fun t70 =>
 go_2 [s3_2, s4_2, s5_2, s13_2, s14_2, t130, s19, t132, t70] σ_5))
 (Do (aBuiltin Tryz.prog .len #[22] [s13_2]) fun t135 =>
 Do (aBin Tryz.prog .lss 3 s19 t135) fun t136 =>
 aCond t136
 (Do (aIndexAddr .slice 1 s13_2 s19) fun t140 =>
 Do (loadA false 1 t140 σ_4) fun t141 =>
 Do (aSlLit (mkE [.val (.slice none 0 0)]) 1 1 [(0, t141)]) fun t142 =>
 aAppend 33 1 24 s18 t142 σ_4 (subK fun t143 σ_6 =>
 Do (aBin Tryz.prog .add 3 s19 (.val (.int .i64 1))) fun t145 =>
 Do (aBin Tryz.prog .add 3 s21 (.val (.int .i64 1))) fun t70_1 =>
 go_2 [s3_2, s4_2, s5_2, s13_2, s14_2, t143, t145, s20, t70_1] σ_6))
 (Do (aBin Tryz.prog .add 3 s21 (.val (.int .i64 1))) fun t70_2 =>
 go_2 [s3_2, s4_2, s5_2, s13_2, s14_2, s18, s19, s20, t70_2] σ_4)))
 (Q (.ret s18) σ_4))
 [s3, s4, s5, s13, s14, (.val (.slice none 0 0)), (.val (.int .i64 0)), (.val (.int .i64 0)), (.val (.int .i64 0))] σ))
 [a0, a1, a2, a3, a4, a5, (.val (.slice none 0 0)), (.val (.slice none 0 0)), (.val (.int .i64 0))] σ
theorem law17_placed.eq (a0 a1 a2 a3 a4 a5 : AV) (σ : Store) (Q : AEnd → Store → Prop) : vc (semOf Tryz.prog law17_placed.mark) Tryz.f55.ntmps law17_placed.ann (bodyOf Tryz.f55) (endK [.tmp 12] Q) (argFr [a0, a1, a2, a3, a4, a5]) σ = law17_placed.sh a0 a1 a2 a3 a4 a5 σ Q := by kernel_rfl
theorem law17_placed.go {a0 a1 a2 a3 a4 a5 : AV} {σ : Store} {Q : AEnd → Store → Prop} (h : law17_placed.sh a0 a1 a2 a3 a4 a5 σ Q) : ACalls Tryz.prog 55 [a0, a1, a2, a3, a4, a5] σ Q :=
 acalls_of_eq [.tmp 12] Tryz.func55 (by kernel_rfl) (by kernel_rfl) (by kernel_rfl) (by kernel_rfl) (law17_placed.eq a0 a1 a2 a3 a4 a5 σ Q) h
theorem stayR_nat (l : List (List En)) (ins : List Int) (k : Nat) : (stayR l ins k).length ≤ k := by
 unfold stayR
 rw [List.length_map]
 exact Nat.le_trans (List.length_filter_le _ _) (by rw [List.length_range]; exact Nat.le_refl _)
instance lenEn {P : Program} {t : TypeId} {l : List En} {K : AV → Prop} [h : SlT P t] : Stp (Do (aBuiltin P .len #[t] [enL l]) K) (K (.val (.int .i64 ((l.length : Nat) : Int)))) :=
 inferInstanceAs (Stp (Do (aBuiltin P .len #[t] [.lst 4 (l.map En.av) .ro]) K) _)
instance ixEn {l : List En} {K : AV → Prop} {x : Int} {b : Nat} {kk : IntKind} [h : NatOf x b] : Stp (Do (aIndexAddr .slice 4 (enL l) (.val (.int kk x))) K) (Need (b < l.length) (K (.rptr (En.cs (l.getD b default))))) :=
 inferInstanceAs (Stp (Do (aIndexAddr .slice 4 (.lst 4 (l.map En.av) .ro) (.val (.int kk x))) K) _)
theorem drop_getD {α : Type} [Inhabited α] (l : List α) (i : Nat) : (l.drop i).getD 0 default = l.getD i default := by
 simp [List.getD_eq_getElem?_getD, List.getElem?_drop]
theorem isPart_iff {to : Int} {x : TabR} {T : List TabR} {P : List (List En)} {a b : Nat} : isPart to x (T.drop a) (P.drop b) = true ↔ b < P.length ∧ x.lev = to ∧ 0 < (P.getD b default).length ∧ x.fst = ((P.getD b default).getD 0 default).key ∧ (T.length ≤ a ∨ ¬ x = T.getD a default) := by
 unfold isPart
 rw [drop_getD, drop_getD]
 simp only [Bool.and_eq_true, Bool.or_eq_true, decide_eq_true_eq, Bool.not_eq_true', decide_eq_false_iff_not, List.length_drop]
 constructor
 ·rintro ⟨h1, h2, h3, h4, h5⟩
  exact ⟨by omega, h2, h3, h4, h5.imp (by omega) id⟩
 ·rintro ⟨h1, h2, h3, h4, h5⟩
  exact ⟨by omega, h2, h3, h4, h5.imp (by omega) id⟩
theorem placed_ok (l : List TabR) (rows : List (List En)) (J : List Int) (to : Nat) (P : List (List En)) (nx : List TabR) (hr : rows.length = l.length) (hl : l.length ≤ 100000) (hi : J.length ≤ 100000) (hP : P.length ≤ 100000) (hn : nx.length ≤ 100000) (hPl : ∀ p ∈ P, p.length ≤ 100000) :
    aPure Tryz.prog 55 [.lst 36 (l.map tbF) .ro, .lst 1 (rows.map enL) .ro, .lst 1 (J.map it) .ro, I .i64 (to : Nat), .lst 1 (P.map enL) .ro, .lst 36 (nx.map tbF) .ro]
      (.lst 1 ((placedF (to : Nat) nx (stayT l J l.length) (stayR rows J l.length) P).map enL) .ro) := by
  refine ACalls.fin (law17_placed.go ?_)
  unfold law17_placed.sh
  repeat' (with_reducible first|apply Stp.go|refine imp fun _=>?_|refine zq ?_|refine zt ?_|refine zf ?_|refine zg ?_|refine za ?_|refine altF ?_|refine all fun _=>?_|refine both ?_ ?_|refine zu ?_|refine zv ?_|refine cho (fun _=>?_) fun _=>?_|refine zw ?_)
  refine loopI (β := Nat × Value × Value) (fun x => x.1 ≤ l.length)
    (fun x => [.lst 36 (l.map tbF) .ro, .lst 1 (rows.map enL) .ro, .lst 1 (J.map it) .ro, I .i64 (to : Nat), .lst 1 (P.map enL) .ro, .lst 36 (nx.map tbF) .ro, .own x.2.1 (stayR rows J x.1).length, .own x.2.2 (stayT l J x.1).length, I .i64 (x.1 : Nat)])
    (fun x => [.row x.2.2 TbE 36 ((stayT l J x.1).map tbF) 0, .row x.2.1 EsT 1 ((stayR rows J x.1).map enL) 0]) (fun x => l.length - x.1) (0, .slice none 0 0, .slice none 0 0) (Nat.zero_le _)
    ((Sub.nil_own EsT (sz := 1) (by decide) _ [_, _, _, _, _, _] [_, _]).trans (Sub.nil_own TbE (sz := 36) (by decide) _ [_, _, _, _, _, _, _] [_])) ?_
  rintro ⟨i, v, w⟩ h1
  dsimp only at h1 ⊢
  have hsi := stayT_len l J i
  have hri := stayR_nat rows J i
  by_cases hlt : i < l.length
  · have hs := stayT_succ l J i
    have hs2 := stayR_succ rows J i
    repeat' (with_reducible first|apply Stp.go|refine imp fun _=>?_|refine zq ?_|refine zt ?_|refine zf ?_|refine zg ?_|refine za ?_|refine altF ?_|refine all fun _=>?_|refine both ?_ ?_|refine zu ?_|refine zv ?_|refine cho (fun _=>?_) fun _=>?_|refine zw ?_)
    refine loopI (β := Nat) (fun k => k ≤ J.length)
      (fun k => [.lst 36 (l.map tbF) .ro, .lst 1 (rows.map enL) .ro, .lst 1 (J.map it) .ro, I .i64 (to : Nat), .lst 1 (P.map enL) .ro, .lst 36 (nx.map tbF) .ro, .own v (stayR rows J i).length, .own w (stayT l J i).length, I .i64 (i : Nat), B (decide ((i : Int) ∈ J.take k)), I .i64 (k : Nat)])
      (fun _ => [.row w TbE 36 ((stayT l J i).map tbF) 0, .row v EsT 1 ((stayR rows J i).map enL) 0]) (fun k => J.length - k) 0 (Nat.zero_le _) (Sub.refl _ _) ?_
    intro k hk
    by_cases hkl : k < J.length
    · have hst : (i : Int) ∈ J.take (k + 1) ↔ ((i : Int) ∈ J.take k ∨ J.getD k default = i) := by
        rw [take_succ_d hkl, List.mem_append, List.mem_singleton]
        exact or_congr Iff.rfl eq_comm
      by_cases hg : (i : Int) ∈ J.take k
      · rw [decide_eq_true hg]
        repeat' (with_reducible first|apply Stp.go|refine imp fun _=>?_|refine zq ?_|refine zt ?_|refine zf ?_|refine zg ?_|refine za ?_|refine altF ?_|refine all fun _=>?_|refine both ?_ ?_|refine zu ?_|refine zv ?_|refine cho (fun _=>?_) fun _=>?_|refine zw ?_)
        exact again (k + 1) (by omega) (by omega) (by rw [decide_eq_true (hst.2 (.inl hg))]; exact Sub.refl _ _)
      · rw [decide_eq_false hg]
        have hff : ¬ (false : Bool) = true := by decide
        have he : decide ((i : Int) ∈ J.take (k + 1)) = decide (J.getD k default = (i : Int)) := by
          rw [Bool.eq_iff_iff, decide_eq_true_eq, decide_eq_true_eq, hst]
          exact ⟨fun h => h.resolve_left hg, .inr⟩
        repeat' (with_reducible first|apply Stp.go|refine imp fun _=>?_|refine zq ?_|refine zt ?_|refine zf ?_|refine zg ?_|refine za ?_|refine altF ?_|refine all fun _=>?_|refine both ?_ ?_|refine zu ?_|refine zv ?_|refine cho (fun _=>?_) fun _=>?_|refine zw ?_)
        exact again (k + 1) (by omega) (by omega) (by rw [he]; exact Sub.refl _ _)
    · have ek : k = J.length := by omega
      subst ek
      rw [List.take_length]
      by_cases hc : (i : Int) ∈ J
      · rw [decide_eq_true hc]
        rw [if_pos hc, List.append_nil] at hs hs2
        have htt : (true : Bool) = true := rfl
        repeat' (with_reducible first|apply Stp.go|refine imp fun _=>?_|refine zq ?_|refine zt ?_|refine zf ?_|refine zg ?_|refine za ?_|refine altF ?_|refine all fun _=>?_|refine both ?_ ?_|refine zu ?_|refine zv ?_|refine cho (fun _=>?_) fun _=>?_|refine zw ?_)
        exact again (i + 1, v, w) (by dsimp only; omega) (by dsimp only; omega) (by dsimp only; rw [hs, hs2]; exact Sub.refl _ _)
      · rw [decide_eq_false hc]
        rw [if_neg hc] at hs hs2
        have hff : ¬ (false : Bool) = true := by decide
        repeat' (with_reducible first|apply Stp.go|refine imp fun _=>?_|refine zq ?_|refine zt ?_|refine zf ?_|refine zg ?_|refine za ?_|refine altF ?_|refine all fun _=>?_|refine both ?_ ?_|refine zu ?_|refine zv ?_|refine cho (fun _=>?_) fun _=>?_|refine zw ?_)
        rename_i v2 w2
        exact again (i + 1, v2, w2) (by dsimp only; omega) (by dsimp only; omega) (by dsimp only; rw [hs, hs2]; exact Sub.refl _ _)
  · have e : i = l.length := by omega
    subst e
    have hsr := stayR_len l rows J l.length
    generalize stayT l J l.length = T at *
    generalize stayR rows J l.length = S at *
    repeat' (with_reducible first|apply Stp.go|refine imp fun _=>?_|refine zq ?_|refine zt ?_|refine zf ?_|refine zg ?_|refine za ?_|refine altF ?_|refine all fun _=>?_|refine both ?_ ?_|refine zu ?_|refine zv ?_|refine cho (fun _=>?_) fun _=>?_|refine zw ?_)
    refine loopI (β := Nat × Nat × Nat × Value × List (List En)) (fun x => x.1 ≤ nx.length ∧ x.2.1 ≤ T.length ∧ x.2.2.1 ≤ P.length ∧ x.2.2.2.2.length ≤ x.1 ∧ x.2.2.2.2 ++ placedF (to : Nat) (nx.drop x.1) (T.drop x.2.1) (S.drop x.2.1) (P.drop x.2.2.1) = placedF (to : Nat) nx T S P)
      (fun x => [I .i64 (to : Nat), .lst 1 (P.map enL) .ro, .lst 36 (nx.map tbF) .ro, .own v S.length, .own w T.length, .own x.2.2.2.1 x.2.2.2.2.length, I .i64 (x.2.1 : Nat), I .i64 (x.2.2.1 : Nat), I .i64 (x.1 : Nat)])
      (fun x => [.row x.2.2.2.1 EsT 1 (x.2.2.2.2.map enL) 0, .row w TbE 36 (T.map tbF) 0, .row v EsT 1 (S.map enL) 0]) (fun x => nx.length - x.1) (0, 0, 0, .slice none 0 0, []) ⟨Nat.zero_le _, Nat.zero_le _, Nat.zero_le _, Nat.zero_le _, rfl⟩ (Sub.nil_own EsT (sz := 1) (by decide) _ [_, _, _, _, _] [_, _, _]) ?_
    rintro ⟨i, a, b, u, out⟩ ⟨q1, q2, q3, q4, q5⟩
    dsimp only at q1 q2 q3 q4 q5 ⊢
    by_cases hin : i < nx.length
    · rw [drop_cons_d hin] at q5
      generalize hx : nx.getD i default = x at *
      by_cases hip : isPart (to : Nat) x (T.drop a) (P.drop b) = true
      · have hst : placedF (to : Nat) (x :: nx.drop (i + 1)) (T.drop a) (S.drop a) (P.drop b) = P.getD b default :: placedF (to : Nat) (nx.drop (i + 1)) (T.drop a) (S.drop a) (P.drop (b + 1)) := by
          show (if isPart _ _ _ _ = true then _ else _) = _
          rw [if_pos hip, drop_getD, List.drop_drop]
        rw [hst] at q5
        obtain ⟨c1, c2, c3, c4, c5⟩ := isPart_iff.1 hip
        clear hip
        rw [← hx] at c2 c4 c5
        have hfin : ∀ u2 : Value, i + 1 ≤ nx.length ∧ a ≤ T.length ∧ b + 1 ≤ P.length ∧ (out ++ [P.getD b default]).length ≤ i + 1 ∧ (out ++ [P.getD b default]) ++ placedF (to : Nat) (nx.drop (i + 1)) (T.drop a) (S.drop a) (P.drop (b + 1)) = placedF (to : Nat) nx T S P := fun _ =>
          ⟨by omega, q2, by omega, by rw [List.length_append, List.length_singleton]; omega, by rw [List.append_assoc]; exact q5⟩
        by_cases c6 : T.length ≤ a
        · repeat' (with_reducible first|apply Stp.go|refine imp fun _=>?_|refine zq ?_|refine zt ?_|refine zf ?_|refine zg ?_|refine za ?_|refine altF ?_|refine all fun _=>?_|refine both ?_ ?_|refine zu ?_|refine zv ?_|refine cho (fun _=>?_) fun _=>?_|refine zw ?_)
          rename_i u2
          exact again (i + 1, a, b + 1, u2, out ++ [P.getD b default]) (by dsimp only; omega) (hfin u2) (Sub.refl _ _)
        · have c7 := c5.resolve_left c6
          have c8 : ¬ (⟨(nx.getD i default).lev, (nx.getD i default).cnt, ⟨(nx.getD i default).root.val, Len32.len⟩, (nx.getD i default).fst, (nx.getD i default).lst⟩ : TabR) = ⟨(T.getD a default).lev, (T.getD a default).cnt, ⟨(T.getD a default).root.val, Len32.len⟩, (T.getD a default).fst, (T.getD a default).lst⟩ := c7
          repeat' (with_reducible first|apply Stp.go|refine imp fun _=>?_|refine zq ?_|refine zt ?_|refine zf ?_|refine zg ?_|refine za ?_|refine altF ?_|refine all fun _=>?_|refine both ?_ ?_|refine zu ?_|refine zv ?_|refine cho (fun _=>?_) fun _=>?_|refine zw ?_)
          rename_i u2
          exact again (i + 1, a, b + 1, u2, out ++ [P.getD b default]) (by dsimp only; omega) (hfin u2) (Sub.refl _ _)
      · have hpa : isPart (to : Nat) x (T.drop a) (P.drop b) = false := Bool.eq_false_iff.2 hip
        rw [isPart_iff] at hip
        rw [← hx] at hip
        by_cases ha : a < S.length
        · have hst : placedF (to : Nat) (x :: nx.drop (i + 1)) (T.drop a) (S.drop a) (P.drop b) = S.getD a default :: placedF (to : Nat) (nx.drop (i + 1)) (T.drop (a + 1)) (S.drop (a + 1)) (P.drop b) := by
            show (if isPart _ _ _ _ = true then _ else if 0 < (S.drop a).length then _ else _) = _
            rw [if_neg (by rw [hpa]; decide), if_pos (by rw [List.length_drop]; omega), drop_getD, List.drop_drop, List.drop_drop]
          rw [hst] at q5
          have hfin : ∀ u2 : Value, i + 1 ≤ nx.length ∧ a + 1 ≤ T.length ∧ b ≤ P.length ∧ (out ++ [S.getD a default]).length ≤ i + 1 ∧ (out ++ [S.getD a default]) ++ placedF (to : Nat) (nx.drop (i + 1)) (T.drop (a + 1)) (S.drop (a + 1)) (P.drop b) = placedF (to : Nat) nx T S P := fun _ =>
            ⟨by omega, by omega, q3, by rw [List.length_append, List.length_singleton]; omega, by rw [List.append_assoc]; exact q5⟩
          repeat' (with_reducible first|apply Stp.go|refine imp fun _=>?_|refine zq ?_|refine zt ?_|refine zf ?_|refine zg ?_|refine za ?_|refine altF ?_|refine all fun _=>?_|refine both ?_ ?_|refine zu ?_|refine zv ?_|refine cho (fun _=>?_) fun _=>?_|refine zw ?_)
          all_goals first
          | (rename_i u2
             exact again (i + 1, a + 1, b, u2, out ++ [S.getD a default]) (by dsimp only; omega) (hfin u2) (Sub.refl _ _))
          | (rename_i g1 g2 g3 g4 g5 _
             exact (hip ⟨g1, g2, g3, g4, .inr g5⟩).elim)
        · have hst : placedF (to : Nat) (x :: nx.drop (i + 1)) (T.drop a) (S.drop a) (P.drop b) = placedF (to : Nat) (nx.drop (i + 1)) (T.drop a) (S.drop a) (P.drop b) := by
            show (if isPart _ _ _ _ = true then _ else if 0 < (S.drop a).length then _ else _) = _
            rw [if_neg (by rw [hpa]; decide), if_neg (by rw [List.length_drop]; omega)]
          rw [hst] at q5
          repeat' (with_reducible first|apply Stp.go|refine imp fun _=>?_|refine zq ?_|refine zt ?_|refine zf ?_|refine zg ?_|refine za ?_|refine altF ?_|refine all fun _=>?_|refine both ?_ ?_|refine zu ?_|refine zv ?_|refine cho (fun _=>?_) fun _=>?_|refine zw ?_)
          all_goals first
          | exact again (i + 1, a, b, u, out) (by dsimp only; omega) ⟨by dsimp only; omega, q2, q3, by dsimp only; omega, q5⟩ (Sub.refl _ _)
          | (rename_i g1 g2 g3 g4 _
             exact (hip ⟨g1, g2, g3, g4, .inl (by omega)⟩).elim)
    · have e : i = nx.length := by omega
      subst e
      rw [List.drop_length] at q5
      have q6 : out = placedF (to : Nat) nx T S P := by rw [← q5]; exact (List.append_nil _).symm
      rw [← q6]
      repeat' (with_reducible first|apply Stp.go|refine imp fun _=>?_|refine zq ?_|refine zt ?_|refine zf ?_|refine zg ?_|refine za ?_|refine altF ?_|refine all fun _=>?_|refine both ?_ ?_|refine zu ?_|refine zv ?_|refine cho (fun _=>?_) fun _=>?_|refine zw ?_)
      exact ⟨_, _, _, rfl, retOwn (Sub.app_nil _), rfl, rfl⟩
instance {a b c e f : AV} {l nx : List TabR} {rows P : List (List En)} {J : List Int} {to : Nat} {x : Int} {m1 m2 m3 m4 m5 : SM} [h1 : IsL a tbF 36 l m1] [h2 : IsL b enL 1 rows m2] [h3 : IsL c it 1 J m3] [h4 : NatOf x to] [h5 : IsL e enL 1 P m4] [h6 : IsL f tbF 36 nx m5] :
  PC Tryz.prog 55 [a, b, c, .val (.int .i64 x), e, f] (rows.length = l.length ∧ l.length ≤ 100000 ∧ J.length ≤ 100000 ∧ P.length ≤ 100000 ∧ nx.length ≤ 100000 ∧ ∀ p ∈ P, p.length ≤ 100000)
   (.lst 1 ((placedF (to : Nat) nx (stayT l J l.length) (stayR rows J l.length) P).map enL) .ro) := ⟨fun hl => by
 rw [h4.eq]
 exact ⟨[.lst 36 (l.map tbF) .ro, .lst 1 (rows.map enL) .ro, .lst 1 (J.map it) .ro, I .i64 (to : Nat), .lst 1 (P.map enL) .ro, .lst 36 (nx.map tbF) .ro],
  ⟨fun R v hv => SubV.ro _ _ _ R v (h1.sub R v hv), fun R v hv => SubV.ro _ _ _ R v (h2.sub R v hv), fun R v hv => SubV.ro _ _ _ R v (h3.sub R v hv), SubV.refl _, fun R v hv => SubV.ro _ _ _ R v (h5.sub R v hv), fun R v hv => SubV.ro _ _ _ R v (h6.sub R v hv), trivial⟩, placed_ok l rows J to P nx hl.1 hl.2.1 hl.2.2.1 hl.2.2.2.1 hl.2.2.2.2.1 hl.2.2.2.2.2⟩⟩
end Go.Ab

namespace Go.Ab
open Go.Proofs
def leastStep (o : Option En) (l : List En) : Option En := match l with
 | [] => o
 | x :: _ => match o with
  | none => some x
  | some y => if lt x.key y.key = true then some x else some y
theorem leastH_cons (z : En) (s : List En) (r : List (List En)) : leastH ((z :: s) :: r) = match leastH r with | none => some z | some y => if lt y.key z.key = true then some y else some z := rfl
theorem leastH_snoc (l : List En) : ∀ a : List (List En), leastH (a ++ [l]) = leastStep (leastH a) l
 | [] => by cases l <;> rfl
 | [] :: r => leastH_snoc l r
 | (z :: s) :: r => by
  rw [List.cons_append, leastH_cons, leastH_cons, leastH_snoc l r]
  cases l with
  | nil => rfl
  | cons x t =>
   unfold leastStep
   dsimp only
   cases hR : leastH r with
   | none => rfl
   | some y =>
    dsimp only
    cases hxy : lt x.key y.key
    ·rw [if_neg (by decide)]
     dsimp only
     cases hyz : lt y.key z.key
     ·rw [if_neg (by decide)]
      dsimp only
      rw [if_neg]
      rw [le_trans' hyz hxy]; decide
     ·rw [if_pos rfl]
      dsimp only
      rw [if_neg (by rw [hxy]; decide)]
    ·rw [if_pos rfl]
     dsimp only
     cases hyz : lt y.key z.key
     ·simp only [Bool.false_eq_true, if_false]
     ·rw [if_pos rfl]
      dsimp only
      rw [if_pos (lt_trans' hxy hyz), if_pos hxy]
def firstH (k : List UInt8) : List (List En) → Option En
 | [] => none
 | [] :: r => firstH k r
 | (x :: _) :: r => if x.key = k then some x else firstH k r
def headK (k : List UInt8) (l : List En) : Option En := match l with
 | [] => none
 | x :: _ => if x.key = k then some x else none
theorem firstH_snoc (k : List UInt8) (l : List En) : ∀ a : List (List En), firstH k (a ++ [l]) = (firstH k a).or (headK k l)
 | [] => by cases l <;> rfl
 | [] :: r => firstH_snoc k l r
 | (z :: s) :: r => by
  show (if z.key = k then some z else firstH k (r ++ [l])) = (if z.key = k then some z else firstH k r).or _
  by_cases h : z.key = k
  ·rw [if_pos h, if_pos h]; rfl
  ·rw [if_neg h, if_neg h, firstH_snoc k l r]
theorem leastH_firstH : ∀ {ls : List (List En)} {e : En}, leastH ls = some e → firstH e.key ls = some e
 | [], e, h => by cases h
 | [] :: r, e, h => leastH_firstH (ls := r) h
 | (z :: s) :: r, e, h => by
  rw [leastH_cons] at h
  show (if z.key = e.key then some z else firstH e.key r) = some e
  cases hr : leastH r with
  | none =>
   rw [hr] at h
   injection h with h
   rw [h, if_pos rfl]
  | some y =>
   rw [hr] at h
   dsimp only at h
   split at h
   ·rename_i hlt
    injection h with h
    subst h
    rw [if_neg (fun e => by rw [e, lt_irrefl] at hlt; cases hlt)]
    exact leastH_firstH hr
   ·injection h with h
    rw [h, if_pos rfl]
def ref13_least.mark : Mark := ⟨fun t => false, fun t => false, fun t => false, fun t => Nat.beq t 16 || Nat.beq t 26 || Nat.beq t 29 || Nat.beq t 37 || Nat.beq t 40, fun t => false⟩
def ref13_least.ann : Ann := ⟨fun n => bif Nat.beq n 4 then [0, 4, 5, 6] else [], fun n => none, fun n => none⟩
def ref13_least.sh (a0 : AV) (σ : Store) (Q : AEnd → Store → Prop) : Prop :=
 aLoop (fun go vs σ =>
 At vs 0 fun s0 => At vs 1 fun s4 => At vs 2 fun s5 => At vs 3 fun s6 => Do (aBuiltin Tryz.prog .len #[22] [s0]) fun t9 =>
 Do (aBin Tryz.prog .lss 3 s6 t9) fun t10 =>
 aCond t10
 (Do (aIndexAddr .slice 1 s0 s6) fun t15 =>
 Do (loadF false 1 t15) fun t16 =>
 Do (aBuiltin Tryz.prog .len #[33] [t16]) fun t17 =>
 Do (aBin Tryz.prog .gtr 3 t17 (.val (.int .i64 0))) fun t18 =>
 Do (aGuard t18 true (aIs s5)) fun t20 =>
 Do (aGuard t18 true (aUn Tryz.prog .not t20)) fun t21 =>
 Do (aGuard t18 true (aIs t21)) fun t22 =>
 Do (aGuard t22 false (aIs s0)) fun t23 =>
 Do (aGuard t22 false (aIs s6)) fun t24 =>
 Do (aGuard t22 false (aIndexAddr .slice 1 t23 t24)) fun t25 =>
 Do (aGuard t22 false (loadF false 1 t25)) fun t26 =>
 Do (aGuard t22 false (aIndexAddr .slice 4 t26 (.val (.int .i64 0)))) fun t27 =>
 Do (aGuard t22 false (aFieldAddr 0 1 t27)) fun t28 =>
 Do (aGuard t22 false (loadF false 1 t28)) fun t29 =>
 Do (aGuard t22 false (aIs s4)) fun t30 =>
 Do (aGuard t22 false (aBin Tryz.prog .lss 9 t29 t30)) fun t31 =>
 Do (aGuard t18 true (aPick t22 (.val (.bool true)) t31)) fun t32 =>
 Do (aPick t18 t32 (.val (.bool false))) fun t33 =>
 aCond t33
 (Do (aIndexAddr .slice 1 s0 s6) fun t36 =>
 Do (loadF false 1 t36) fun t37 =>
 Do (aIndexAddr .slice 4 t37 (.val (.int .i64 0))) fun t38 =>
 Do (aFieldAddr 0 1 t38) fun t39 =>
 Do (loadF false 1 t39) fun t40 =>
 Do (aBin Tryz.prog .add 3 s6 (.val (.int .i64 1))) fun t12 =>
 go [s0, t40, (.val (.bool true)), t12] σ)
 (Do (aBin Tryz.prog .add 3 s6 (.val (.int .i64 1))) fun t12_1 =>
 go [s0, s4, s5, t12_1] σ))
 (Q (.ret (.tuple [s4, s5])) σ))
 [a0, (.val (.string ⟨#[]⟩)), (.val (.bool false)), (.val (.int .i64 0))] σ
theorem ref13_least.eq (a0 : AV) (σ : Store) (Q : AEnd → Store → Prop) : vc (semOf Tryz.prog ref13_least.mark) Tryz.f76.ntmps ref13_least.ann (bodyOf Tryz.f76) (endK [.tmp 2, .tmp 3] Q) (argFr [a0]) σ = ref13_least.sh a0 σ Q := by kernel_rfl
theorem ref13_least.go {a0 : AV} {σ : Store} {Q : AEnd → Store → Prop} (h : ref13_least.sh a0 σ Q) : ACalls Tryz.prog 76 [a0] σ Q :=
 acalls_of_eq [.tmp 2, .tmp 3] Tryz.func76 (by kernel_rfl) (by kernel_rfl) (by kernel_rfl) (by kernel_rfl) (ref13_least.eq a0 σ Q) h
def ref13_Merge.mark : Mark := ⟨fun t => false, fun t => Nat.beq t 11 || Nat.beq t 15, fun t => false, fun t => Nat.beq t 43 || Nat.beq t 58 || Nat.beq t 68, fun t => false⟩
def ref13_Merge.ann : Ann := ⟨fun n => bif Nat.beq n 4 then [1, 5, 6] else bif Nat.beq n 9 then [1, 5, 6, 7, 9, 10] else [], fun n => bif Nat.beq n 14 then some [1, 5, 6, 7, 10] else none, fun n => none⟩
def ref13_Merge.sh (a0 a1 : AV) (σ : Store) (Q : AEnd → Store → Prop) : Prop :=
 aRowL 33 (mkE [.val (.slice none 0 0)]) 1 0 [] σ fun t11 σ =>
 aAppend 33 1 24 t11 a0 σ (subK fun t14 σ_1 =>
 aRowL 50 (mkE [.val (.string ⟨#[]⟩), .val (.string ⟨#[]⟩), .val (.bool false), .val (.int .i64 0)]) 4 0 [] σ_1 fun t15 σ_2 =>
 aLoop (fun go vs σ_3 =>
 At vs 0 fun s1 => At vs 1 fun s5 => At vs 2 fun s6 => aCall Tryz.prog 76 [s5] σ_3 (fun t18 σ_4 =>
 Do (aExt t18 0) fun t19 =>
 Do (aExt t18 1) fun t20 =>
 Do (aUn Tryz.prog .not t20) fun t22 =>
 aCond t22
 (Q (.ret s6) σ_4)
 (aLoop (fun go_1 vs_1 σ_5 =>
 At vs_1 0 fun s1_1 => At vs_1 1 fun s5_1 => At vs_1 2 fun s6_1 => At vs_1 3 fun s7 => At vs_1 4 fun s9 => At vs_1 5 fun s10 => Do (aBuiltin Tryz.prog .len #[22] [s5_1]) fun t26 =>
 Do (aBin Tryz.prog .lss 3 s10 t26) fun t27 =>
 aCond t27
 (Do (aIndexAddr .slice 1 s5_1 s10) fun t32 =>
 Do (loadA false 1 t32 σ_5) fun t33 =>
 Do (aBuiltin Tryz.prog .len #[33] [t33]) fun t34 =>
 Do (aBin Tryz.prog .eql 3 t34 (.val (.int .i64 0))) fun t35 =>
 Do (aGuard t35 false (aIs s5_1)) fun t37 =>
 Do (aGuard t35 false (aIs s10)) fun t38 =>
 Do (aGuard t35 false (aIndexAddr .slice 1 t37 t38)) fun t39 =>
 Do (aGuard t35 false (loadA false 1 t39 σ_5)) fun t40 =>
 Do (aGuard t35 false (aIndexAddr .slice 4 t40 (.val (.int .i64 0)))) fun t41 =>
 Do (aGuard t35 false (aFieldAddr 0 1 t41)) fun t42 =>
 Do (aGuard t35 false (loadF false 1 t42)) fun t43 =>
 Do (aGuard t35 false (aIs s7)) fun t44 =>
 Do (aGuard t35 false (aBin Tryz.prog .neq 9 t43 t44)) fun t45 =>
 Do (aPick t35 (.val (.bool true)) t45) fun t46 =>
 aCond t46
 (Do (aBin Tryz.prog .add 3 s10 (.val (.int .i64 1))) fun t29 =>
 go_1 [s1_1, s5_1, s6_1, s7, s9, t29] σ_5)
 (aJoin (fun j =>
 Do (aUn Tryz.prog .not s9) fun t48 =>
 Do (aGuard t48 true (aIs s1_1)) fun t50 =>
 Do (aGuard t48 true (aIs t50)) fun t51 =>
 Do (aGuard t51 true (aIs s5_1)) fun t52 =>
 Do (aGuard t51 true (aIs s10)) fun t53 =>
 Do (aGuard t51 true (aIndexAddr .slice 1 t52 t53)) fun t54 =>
 Do (aGuard t51 true (loadA false 1 t54 σ_5)) fun t55 =>
 Do (aGuard t51 true (aIndexAddr .slice 4 t55 (.val (.int .i64 0)))) fun t56 =>
 Do (aGuard t51 true (aFieldAddr 2 1 t56)) fun t57 =>
 Do (aGuard t51 true (loadF false 1 t57)) fun t58 =>
 Do (aGuard t48 true (aPick t51 t58 (.val (.bool false)))) fun t59 =>
 Do (aGuard t48 true (aUn Tryz.prog .not t59)) fun t60 =>
 Do (aPick t48 t60 (.val (.bool false))) fun t61 =>
 aCond t61
 (Do (aIndexAddr .slice 1 s5_1 s10) fun t65 =>
 Do (loadA false 1 t65 σ_5) fun t66 =>
 Do (aIndexAddr .slice 4 t66 (.val (.int .i64 0))) fun t67 =>
 Do (loadF true 4 t67) fun t68 =>
 Do (aSlLit (mkE [.val (.string ⟨#[]⟩), .val (.string ⟨#[]⟩), .val (.bool false), .val (.int .i64 0)]) 4 1 [(0, t68)]) fun t69 =>
 aAppend 50 4 48 s6_1 t69 σ_5 (subK fun t70 σ_7 =>
 j [s1_1, s5_1, t70, s7, s10] σ_7))
 (j [s1_1, s5_1, s6_1, s7, s10] σ_5)) fun vs_2 σ_6 =>
 At vs_2 0 fun s1_2 => At vs_2 1 fun s5_2 => At vs_2 2 fun s6_2 => At vs_2 3 fun s7_1 => At vs_2 4 fun s10_1 => Do (aIndexAddr .slice 1 s5_2 s10_1) fun t75 =>
 Do (loadA false 1 t75 σ_6) fun t76 =>
 Do (aSlice .slice 4 t76 (some (.val (.int .i64 1))) none none) fun t77 =>
 Do (aIndexAddr .slice 1 s5_2 s10_1) fun t78 =>
 storeA 1 t78 t77 σ_6 fun u σ_8 =>
 Do (aBin Tryz.prog .add 3 s10_1 (.val (.int .i64 1))) fun t29_1 =>
 go_1 [s1_2, s5_2, s6_2, s7_1, (.val (.bool true)), t29_1] σ_8))
 (go [s1_1, s5_1, s6_1] σ_5))
 [s1, s5, s6, t19, (.val (.bool false)), (.val (.int .i64 0))] σ_4)) (fun e σ_9 => Q (.pan e) σ_9))
 [a1, t14, t15] σ_2)
theorem ref13_Merge.eq (a0 a1 : AV) (σ : Store) (Q : AEnd → Store → Prop) : vc (semOf Tryz.prog ref13_Merge.mark) Tryz.f38.ntmps ref13_Merge.ann (bodyOf Tryz.f38) (endK [.tmp 4] Q) (argFr [a0, a1]) σ = ref13_Merge.sh a0 a1 σ Q := by kernel_rfl
theorem ref13_Merge.go {a0 a1 : AV} {σ : Store} {Q : AEnd → Store → Prop} (h : ref13_Merge.sh a0 a1 σ Q) : ACalls Tryz.prog 38 [a0, a1] σ Q :=
 acalls_of_eq [.tmp 4] Tryz.func38 (by kernel_rfl) (by kernel_rfl) (by kernel_rfl) (by kernel_rfl) (ref13_Merge.eq a0 a1 σ Q) h
def ref13_Split.mark : Mark := ⟨fun t => false, fun t => Nat.beq t 8 || Nat.beq t 34, fun t => false, fun t => false, fun t => false⟩
def ref13_Split.ann : Ann := ⟨fun n => bif Nat.beq n 3 then [0, 3, 4] else bif Nat.beq n 7 then [0, 3, 4, 5, 6] else [], fun n => bif Nat.beq n 12 then some [0, 3, 4, 5, 6, 7] else none, fun n => none⟩
def ref13_Split.sh (a0 : AV) (σ : Store) (Q : AEnd → Store → Prop) : Prop :=
 aRowL 33 (mkE [.val (.slice none 0 0)]) 1 0 [] σ fun t8 σ =>
 aLoop (fun go vs σ_1 =>
 At vs 0 fun s0 => At vs 1 fun s3 => At vs 2 fun s4 => Do (aBin Tryz.prog .mul 3 s4 (.val (.int .i64 64))) fun t10 =>
 Do (aBuiltin Tryz.prog .len #[33] [s0]) fun t12 =>
 Do (aBin Tryz.prog .lss 3 t10 t12) fun t13 =>
 aCond t13
 (Do (aBin Tryz.prog .add 3 s4 (.val (.int .i64 1))) fun t15 =>
 go [s0, s3, t15] σ_1)
 (aLoop (fun go_1 vs_1 σ_2 =>
 At vs_1 0 fun s0_1 => At vs_1 1 fun s3_1 => At vs_1 2 fun s4_1 => At vs_1 3 fun s5 => At vs_1 4 fun s6 => Do (aBin Tryz.prog .lss 3 s6 s4_1) fun t18 =>
 aCond t18
 (Do (aBuiltin Tryz.prog .len #[33] [s0_1]) fun t22 =>
 Do (aBin Tryz.prog .quo 3 t22 s4_1) fun t24 =>
 aJoin (fun j =>
 Do (aBuiltin Tryz.prog .len #[33] [s0_1]) fun t27 =>
 Do (aBin Tryz.prog .rem 3 t27 s4_1) fun t29 =>
 Do (aBin Tryz.prog .lss 3 s6 t29) fun t30 =>
 aCond t30
 (Do (aBin Tryz.prog .add 3 t24 (.val (.int .i64 1))) fun t32 =>
 j [s0_1, s3_1, s4_1, s5, s6, t32] σ_2)
 (j [s0_1, s3_1, s4_1, s5, s6, t24] σ_2)) fun vs_2 σ_3 =>
 At vs_2 0 fun s0_2 => At vs_2 1 fun s3_2 => At vs_2 2 fun s4_2 => At vs_2 3 fun s5_1 => At vs_2 4 fun s6_1 => At vs_2 5 fun s7 => aRowL 50 (mkE [.val (.string ⟨#[]⟩), .val (.string ⟨#[]⟩), .val (.bool false), .val (.int .i64 0)]) 4 0 [] σ_3 fun t34 σ_4 =>
 Do (aBin Tryz.prog .add 3 s5_1 s7) fun t39 =>
 Do (aSlice .slice 4 s0_2 (some s5_1) (some t39) none) fun t40 =>
 aAppend 50 4 48 t34 t40 σ_4 (subF fun t41 σ_5 =>
 Do (aSlLit (mkE [.val (.slice none 0 0)]) 1 1 [(0, t41)]) fun t42 =>
 aAppend 33 1 24 s3_2 t42 σ_5 (subK fun t43 σ_6 =>
 Do (aBin Tryz.prog .add 3 s5_1 s7) fun t46 =>
 Do (aBin Tryz.prog .add 3 s6_1 (.val (.int .i64 1))) fun t20 =>
 go_1 [s0_2, t43, s4_2, t46, t20] σ_6)))
 (Q (.ret s3_1) σ_2))
 [s0, s3, s4, (.val (.int .i64 0)), (.val (.int .i64 0))] σ_1))
 [a0, t8, (.val (.int .i64 0))] σ
theorem ref13_Split.eq (a0 : AV) (σ : Store) (Q : AEnd → Store → Prop) : vc (semOf Tryz.prog ref13_Split.mark) Tryz.f37.ntmps ref13_Split.ann (bodyOf Tryz.f37) (endK [.tmp 2] Q) (argFr [a0]) σ = ref13_Split.sh a0 σ Q := by kernel_rfl
theorem ref13_Split.go {a0 : AV} {σ : Store} {Q : AEnd → Store → Prop} (h : ref13_Split.sh a0 σ Q) : ACalls Tryz.prog 37 [a0] σ Q :=
 acalls_of_eq [.tmp 2] Tryz.func37 (by kernel_rfl) (by kernel_rfl) (by kernel_rfl) (by kernel_rfl) (ref13_Split.eq a0 σ Q) h
theorem least_ok (ls : List (List En)) (m : SM) (hl : ls.length ≤ 100000) : aPure Tryz.prog 76 [.lst 1 (ls.map enL) m] (.tuple [S (((leastH ls).map (·.key)).getD []), B (leastH ls).isSome]) := by
 refine ACalls.fin (ref13_least.go ?_)
 unfold ref13_least.sh
 repeat' (with_reducible first|apply Stp.go|refine imp fun _=>?_|refine zq ?_|refine zt ?_|refine zf ?_|refine zg ?_|refine za ?_|refine altF ?_|refine all fun _=>?_|refine both ?_ ?_|refine zu ?_|refine zv ?_|refine cho (fun _=>?_) fun _=>?_|refine zw ?_)
 refine loopI (β := Nat) (fun i => i ≤ ls.length) (fun i => [.lst 1 (ls.map enL) m, S (((leastH (ls.take i)).map (·.key)).getD []), B (leastH (ls.take i)).isSome, I .i64 (i : Nat)]) (fun _ => []) (fun i => ls.length - i) 0 (Nat.zero_le _) (Sub.refl _ _) ?_
 intro i hi
 by_cases hlt : i < ls.length
 ·have hst : leastH (ls.take (i + 1)) = leastStep (leastH (ls.take i)) (ls.getD i default) := by rw [take_succ_d hlt, leastH_snoc]
  generalize hl0 : ls.getD i default = l at *
  generalize leastH (ls.take i) = o at *
  have htt : (true : Bool) = true := rfl
  have hff : ¬ (false : Bool) = true := by decide
  cases l with
  | nil =>
   have e : leastH (ls.take (i + 1)) = o := hst
   have hz : ¬ 0 < (ls.getD i default).length := by rw [hl0]; decide
   repeat' (with_reducible first|apply Stp.go|refine imp fun _=>?_|refine zq ?_|refine zt ?_|refine zf ?_|refine zg ?_|refine za ?_|refine altF ?_|refine all fun _=>?_|refine both ?_ ?_|refine zu ?_|refine zv ?_|refine cho (fun _=>?_) fun _=>?_|refine zw ?_)
   all_goals exact again (i + 1) (by omega) (by omega) (by rw [e]; exact Sub.refl _ _)
  | cons x t =>
   have hz : 0 < (ls.getD i default).length := by rw [hl0]; exact Nat.succ_pos _
   have hx : (ls.getD i default).getD 0 default = x := by rw [hl0]; rfl
   cases o with
   | none =>
    have e : leastH (ls.take (i + 1)) = some x := hst
    rw [← hx] at e
    have hn : ¬ (none : Option En).isSome = true := by decide
    repeat' (with_reducible first|apply Stp.go|refine imp fun _=>?_|refine zq ?_|refine zt ?_|refine zf ?_|refine zg ?_|refine za ?_|refine altF ?_|refine all fun _=>?_|refine both ?_ ?_|refine zu ?_|refine zv ?_|refine cho (fun _=>?_) fun _=>?_|refine zw ?_)
    exact again (i + 1) (by omega) (by omega) (by rw [e]; exact Sub.refl _ _)
   | some y =>
    have e : leastH (ls.take (i + 1)) = if lt x.key y.key = true then some x else some y := hst
    rw [← hx] at e
    have hn : (some y).isSome = true := rfl
    by_cases hxy : Op.bytesLess ((ls.getD i default).getD 0 default).key ((Option.map (fun x => x.key) (some y)).getD []) = true
    ·replace e := e.trans (if_pos hxy)
     repeat' (with_reducible first|apply Stp.go|refine imp fun _=>?_|refine zq ?_|refine zt ?_|refine zf ?_|refine zg ?_|refine za ?_|refine altF ?_|refine all fun _=>?_|refine both ?_ ?_|refine zu ?_|refine zv ?_|refine cho (fun _=>?_) fun _=>?_|refine zw ?_)
     exact again (i + 1) (by omega) (by omega) (by rw [e]; exact Sub.refl _ _)
    ·replace e := e.trans (if_neg hxy)
     repeat' (with_reducible first|apply Stp.go|refine imp fun _=>?_|refine zq ?_|refine zt ?_|refine zf ?_|refine zg ?_|refine za ?_|refine altF ?_|refine all fun _=>?_|refine both ?_ ?_|refine zu ?_|refine zv ?_|refine cho (fun _=>?_) fun _=>?_|refine zw ?_)
     exact again (i + 1) (by omega) (by omega) (by rw [e]; exact Sub.refl _ _)
 ·have e : i = ls.length := by omega
  subst e
  rw [List.take_length]
  repeat' (with_reducible first|apply Stp.go|refine imp fun _=>?_|refine zq ?_|refine zt ?_|refine zf ?_|refine zg ?_|refine za ?_|refine altF ?_|refine all fun _=>?_|refine both ?_ ?_|refine zu ?_|refine zv ?_|refine cho (fun _=>?_) fun _=>?_|refine zw ?_)
  exact ⟨_, _, _, rfl, Sub.refl _ _, rfl, rfl⟩
instance {a : AV} {ls : List (List En)} {m : SM} [h : IsL a enL 1 ls m] : PC Tryz.prog 76 [a] (ls.length ≤ 100000) (.tuple [S (((leastH ls).map (·.key)).getD []), B (leastH ls).isSome]) := ⟨fun hl => ⟨[.lst 1 (ls.map enL) m], ⟨h.sub, trivial⟩, least_ok ls m hl⟩⟩
instance slEn {l : List En} {K : AV → Prop} {x : Int} {a : Nat} {kk : IntKind} [h : NatOf x a] : Stp (Do (aSlice .slice 4 (enL l) (some (.val (.int kk x))) none none) K) (Need (a ≤ l.length) (K (.lst 4 ((l.drop a).map En.av) .ro))) :=
 inferInstanceAs (Stp (Do (aSlice .slice 4 (.lst 4 (l.map En.av) .ro) (some (.val (.int kk x))) none none) K) _)
def passI (k : List UInt8) (ls : List (List En)) (i : Nat) : List (List En) := passA k (ls.take i) ++ ls.drop i
theorem passI_len (k : List UInt8) (ls : List (List En)) (i : Nat) : (passI k ls i).length = ls.length := by
 unfold passI passA
 rw [List.length_append, List.length_map, List.length_take, List.length_drop]; omega
theorem passI_get {k : List UInt8} {ls : List (List En)} {i : Nat} (h : i < ls.length) : (passI k ls i).getD i default = ls.getD i default := by
 unfold passI passA
 have hl : ((ls.take i).map (passK k)).length = i := by rw [List.length_map, List.length_take]; omega
 rw [List.getD_eq_getElem?_getD, List.getElem?_append_right (by omega), hl, Nat.sub_self, List.getElem?_drop, List.getD_eq_getElem?_getD, Nat.add_zero]
theorem passI_succ {k : List UInt8} {ls : List (List En)} {i : Nat} (h : i < ls.length) : passI k ls (i + 1) = (passI k ls i).set i (passK k (ls.getD i default)) := by
 unfold passI passA
 have hl : ((ls.take i).map (passK k)).length = i := by rw [List.length_map, List.length_take]; omega
 have hd : ls.drop i = ls.getD i default :: ls.drop (i + 1) := by
  rw [List.drop_eq_getElem_cons h, List.getD_eq_getElem?_getD, List.getElem?_eq_getElem h]; rfl
 rw [take_succ_d h, List.map_append, hd, List.set_append, if_neg (by omega), hl, Nat.sub_self, List.append_assoc]
 rfl
theorem passI_same {k : List UInt8} {ls : List (List En)} {i : Nat} (h : i < ls.length) (hk : passK k (ls.getD i default) = ls.getD i default) : passI k ls (i + 1) = passI k ls i := by
 unfold passI passA
 have hd : ls.drop i = ls.getD i default :: ls.drop (i + 1) := by
  rw [List.drop_eq_getElem_cons h, List.getD_eq_getElem?_getD, List.getElem?_eq_getElem h]; rfl
 rw [take_succ_d h, List.map_append, hd, List.append_assoc]
 congr 1
 show [passK k (ls.getD i default)] ++ _ = _
 rw [hk]
 rfl
def outI (b : Bool) (o : Option En) : List En := match o with
 | none => []
 | some e => if (b && e.del) = true then [] else [e]
theorem rMerge_ok (ls : List (List En)) (b : Bool) (m : SM) (hl : ls.length ≤ 1000) (hs : ∀ l ∈ ls, l.length ≤ 1000) : aPure Tryz.prog 38 [.lst 1 (ls.map enL) m, B b] (.lst 4 ((mergeL b ls).map En.av) .ro) := by
 refine ACalls.fin (ref13_Merge.go ?_)
 unfold ref13_Merge.sh
 have htl := totL_le' hs
 have htl2 : totL ls ≤ 1000000 := by have := Nat.mul_le_mul_left 1000 hl; omega
 repeat' (with_reducible first|apply Stp.go|refine imp fun _=>?_|refine zq ?_|refine zt ?_|refine zf ?_|refine zg ?_|refine za ?_|refine altF ?_|refine all fun _=>?_|refine both ?_ ?_|refine zu ?_|refine zv ?_|refine cho (fun _=>?_) fun _=>?_|refine zw ?_)
 rw [show List.map bl ([] : List (List UInt8)) = List.map enL ([] : List (List En)) from rfl]
 repeat' (with_reducible first|apply Stp.go|refine imp fun _=>?_|refine zq ?_|refine zt ?_|refine zf ?_|refine zg ?_|refine za ?_|refine altF ?_|refine all fun _=>?_|refine both ?_ ?_|refine zu ?_|refine zv ?_|refine cho (fun _=>?_) fun _=>?_|refine zw ?_)
 rename_i v0 v1 w0
 refine loopI (β := List (List En) × Value × List En) (fun x => x.1.length = ls.length ∧ (∀ l ∈ x.1, l.length ≤ 1000) ∧ x.2.2 ++ mergeL b x.1 = mergeL b ls ∧ x.2.2.length + totL x.1 ≤ totL ls)
  (fun x => [B b, .own v1 x.1.length, .own x.2.1 x.2.2.length])
  (fun x => [.row x.2.1 50 4 (x.2.2.map En.av) 0, .row v1 EsT 1 (x.1.map enL) 0]) (fun x => totL x.1) (ls, w0, []) ⟨rfl, hs, rfl, by simp⟩ (Sub.refl _ _) ?_
 rintro ⟨lq, w, out⟩ ⟨g1, g2, g3, g4⟩
 dsimp only at g1 g2 g3 g4 ⊢
 have htt : (true : Bool) = true := rfl
 have hff : ¬ (false : Bool) = true := by decide
 cases hlq : leastH lq with
 | none =>
  have hn : ¬ (none : Option En).isSome = true := by decide
  rw [mergeL_none hlq, List.append_nil] at g3
  rw [← g3]
  have hlq2 : ¬ (leastH lq).isSome = true := by rw [hlq]; decide
  repeat' (with_reducible first|apply Stp.go|refine imp fun _=>?_|refine zq ?_|refine zt ?_|refine zf ?_|refine zg ?_|refine za ?_|refine altF ?_|refine all fun _=>?_|refine both ?_ ?_|refine zu ?_|refine zv ?_|refine cho (fun _=>?_) fun _=>?_|refine zw ?_)
  exact ⟨_, _, _, rfl, retOwn (Sub.app_nil _), rfl, rfl⟩
 | some e =>
  have hlq2 : (leastH lq).isSome = true := by rw [hlq]; rfl
  have hke : ((leastH lq).map (·.key)).getD [] = e.key := by rw [hlq]; rfl
  have hms := mergeL_some (b := b) hlq
  have hfe := leastH_firstH hlq
  have hlt : totL (passA e.key lq) < totL lq := by
   obtain ⟨l, a1, t, a2⟩ := leastH_mem hlq
   exact passA_lt ⟨l, a1, e, t, a2, rfl⟩
  have hol : ∀ o : Option En, (outI b o).length ≤ 1 := fun o => by
   unfold outI
   split
   ·exact Nat.zero_le _
   ·split <;> simp
  repeat' (with_reducible first|apply Stp.go|refine imp fun _=>?_|refine zq ?_|refine zt ?_|refine zf ?_|refine zg ?_|refine za ?_|refine altF ?_|refine all fun _=>?_|refine both ?_ ?_|refine zu ?_|refine zv ?_|refine cho (fun _=>?_) fun _=>?_|refine zw ?_)
  rw [hke]
  generalize hk : e.key = k at *
  refine loopI (β := Nat × Value) (fun x => x.1 ≤ lq.length)
   (fun x => [B b, .own v1 lq.length, .own x.2 (out ++ outI b (firstH k (lq.take x.1))).length, S k, B (firstH k (lq.take x.1)).isSome, I .i64 (x.1 : Nat)])
   (fun x => [.row x.2 50 4 ((out ++ outI b (firstH k (lq.take x.1))).map En.av) 0, .row v1 EsT 1 ((passI k lq x.1).map enL) 0]) (fun x => lq.length - x.1) (0, w) (Nat.zero_le _) ?_ ?_
  ·have e0 : out ++ outI b (firstH k (lq.take 0)) = out := List.append_nil _
   dsimp only
   rw [e0]
   exact Sub.refl _ _
  rintro ⟨i, w⟩ h1
  dsimp only at h1 ⊢
  have hpl := passI_len k lq i
  by_cases hi : i < lq.length
  ·have hX := passI_get (k := k) hi
   have hst : firstH k (lq.take (i + 1)) = (firstH k (lq.take i)).or (headK k (lq.getD i default)) := by rw [take_succ_d hi, firstH_snoc]
   have hps := passI_succ (k := k) hi
   have hpe := passI_same (k := k) hi
   rw [← hX] at hst hps hpe
   have hxl : ((passI k lq i).getD i default).length ≤ 1000 := by rw [hX]; exact g2 _ (getD_memT hi)
   generalize hL : passI k lq i = L at *
   have hiL : i < L.length := by omega
   cases hl0 : L.getD i default with
   | nil =>
    have hz : (L.getD i default).length = 0 := by rw [hl0]; rfl
    rw [hl0] at hst hpe
    have e1 : firstH k (lq.take (i + 1)) = firstH k (lq.take i) := by rw [hst]; exact Option.or_none
    repeat' (with_reducible first|apply Stp.go|refine imp fun _=>?_|refine zq ?_|refine zt ?_|refine zf ?_|refine zg ?_|refine za ?_|refine altF ?_|refine all fun _=>?_|refine both ?_ ?_|refine zu ?_|refine zv ?_|refine cho (fun _=>?_) fun _=>?_|refine zw ?_)
    exact again (i + 1, w) (by dsimp only; omega) (by dsimp only; omega) (by dsimp only; rw [e1, hpe rfl]; exact Sub.refl _ _)
   | cons x t =>
    have hz : ¬ (L.getD i default).length = 0 := by rw [hl0]; exact Nat.succ_ne_zero _
    have hz2 : 0 < (L.getD i default).length := by omega
    have hx : (L.getD i default).getD 0 default = x := by rw [hl0]; rfl
    by_cases hxk : ((L.getD i default).getD 0 default).key = k
    ·have e1 : firstH k (lq.take (i + 1)) = (firstH k (lq.take i)).or (some ((L.getD i default).getD 0 default)) := by
      rw [hst, hx, hl0]
      rw [hx] at hxk
      rw [show headK k (x :: t) = some x from if_pos hxk]
     have e2 : passK k (L.getD i default) = (L.getD i default).drop 1 := by
      rw [hl0, passK_cons, if_pos (by rw [← hx]; exact hxk)]; rfl
     rw [e2] at hps
     generalize hF : firstH k (lq.take i) = F at *
     have hol1 := hol F
     have hol2 : (out ++ outI b F).length ≤ 1000002 := by rw [List.length_append]; omega
     repeat' (with_reducible first|apply Stp.go|refine imp fun _=>?_|refine zq ?_|refine zt ?_|refine zf ?_|refine zg ?_|refine za ?_|refine altF ?_|refine all fun _=>?_|refine both ?_ ?_|refine zu ?_|refine zv ?_|refine cho (fun _=>?_) fun _=>?_|refine zw ?_)
     refine joinI (β := Value) (fun _ => True) (fun w' => [B b, .own v1 lq.length, .own w' (out ++ outI b (firstH k (lq.take (i + 1)))).length, S k, I .i64 (i : Nat)])
      (fun w' => [.row w' 50 4 ((out ++ outI b (firstH k (lq.take (i + 1)))).map En.av) 0, .row v1 EsT 1 (L.map enL) 0]) ?_ ?_
     ·rw [e1]
      cases F with
      | some f =>
       have hn : (some f).isSome = true := rfl
       rw [show (some f).or (some ((L.getD i default).getD 0 default)) = some f from rfl]
       repeat' (with_reducible first|apply Stp.go|refine imp fun _=>?_|refine zq ?_|refine zt ?_|refine zf ?_|refine zg ?_|refine za ?_|refine altF ?_|refine all fun _=>?_|refine both ?_ ?_|refine zu ?_|refine zv ?_|refine cho (fun _=>?_) fun _=>?_|refine zw ?_)
       exact meet w trivial (Sub.refl _ _)
      | none =>
       have hn : ¬ (none : Option En).isSome = true := by decide
       rw [show (none : Option En).or (some ((L.getD i default).getD 0 default)) = some ((L.getD i default).getD 0 default) from rfl, show out ++ outI b none = out from List.append_nil _]
       rw [show out ++ outI b none = out from List.append_nil _] at hol2
       cases b with
       | false =>
        rw [show outI false (some ((L.getD i default).getD 0 default)) = [(L.getD i default).getD 0 default] from rfl]
        repeat' (with_reducible first|apply Stp.go|refine imp fun _=>?_|refine zq ?_|refine zt ?_|refine zf ?_|refine zg ?_|refine za ?_|refine altF ?_|refine all fun _=>?_|refine both ?_ ?_|refine zu ?_|refine zv ?_|refine cho (fun _=>?_) fun _=>?_|refine zw ?_)
        rename_i w3
        exact meet w3 trivial (Sub.refl _ _)
       | true =>
        by_cases hd : ((L.getD i default).getD 0 default).del = true
        ·rw [show outI true (some ((L.getD i default).getD 0 default)) = [] from if_pos (by rw [hd]; rfl), List.append_nil]
         repeat' (with_reducible first|apply Stp.go|refine imp fun _=>?_|refine zq ?_|refine zt ?_|refine zf ?_|refine zg ?_|refine za ?_|refine altF ?_|refine all fun _=>?_|refine both ?_ ?_|refine zu ?_|refine zv ?_|refine cho (fun _=>?_) fun _=>?_|refine zw ?_)
         exact meet w trivial (Sub.refl _ _)
        ·rw [show outI true (some ((L.getD i default).getD 0 default)) = [(L.getD i default).getD 0 default] from if_neg (by rw [Bool.eq_false_iff.2 hd]; decide)]
         repeat' (with_reducible first|apply Stp.go|refine imp fun _=>?_|refine zq ?_|refine zt ?_|refine zf ?_|refine zg ?_|refine za ?_|refine altF ?_|refine all fun _=>?_|refine both ?_ ?_|refine zu ?_|refine zv ?_|refine cho (fun _=>?_) fun _=>?_|refine zw ?_)
         rename_i w3
         exact meet w3 trivial (Sub.refl _ _)
     ·intro w' _
      have hsome : (firstH k (lq.take (i + 1))).isSome = true := by rw [e1]; cases F <;> rfl
      repeat' (with_reducible first|apply Stp.go|refine imp fun _=>?_|refine zq ?_|refine zt ?_|refine zf ?_|refine zg ?_|refine za ?_|refine altF ?_|refine all fun _=>?_|refine both ?_ ?_|refine zu ?_|refine zv ?_|refine cho (fun _=>?_) fun _=>?_|refine zw ?_)
      exact again (i + 1, w') (by dsimp only; omega) (by dsimp only; omega) (by dsimp only; rw [hsome, hps]; exact Sub.refl _ _)
    ·have e1 : firstH k (lq.take (i + 1)) = firstH k (lq.take i) := by
      rw [hst, hl0]
      rw [hx] at hxk
      rw [show headK k (x :: t) = none from if_neg hxk]
      exact Option.or_none
     have e2 : passK k (L.getD i default) = L.getD i default := by rw [hl0, passK_cons, if_neg (by rw [← hx]; exact hxk)]
     rw [hl0] at e2 hpe
     repeat' (with_reducible first|apply Stp.go|refine imp fun _=>?_|refine zq ?_|refine zt ?_|refine zf ?_|refine zg ?_|refine za ?_|refine altF ?_|refine all fun _=>?_|refine both ?_ ?_|refine zu ?_|refine zv ?_|refine cho (fun _=>?_) fun _=>?_|refine zw ?_)
     exact again (i + 1, w) (by dsimp only; omega) (by dsimp only; omega) (by dsimp only; rw [e1, hpe e2]; exact Sub.refl _ _)
  ·have ei : i = lq.length := by omega
   subst ei
   have e1 : passI k lq lq.length = passA k lq := by unfold passI; rw [List.take_length, List.drop_length, List.append_nil]
   rw [List.take_length, hfe, e1]
   have e2 : outI b (some e) = if (b && e.del) = true then [] else [e] := rfl
   rw [hms, ← List.append_assoc, ← e2] at g3
   have hpl2 : (passA k lq).length = lq.length := by unfold passA; rw [List.length_map]
   have hot := hol (some e)
   repeat' (with_reducible first|apply Stp.go|refine imp fun _=>?_|refine zq ?_|refine zt ?_|refine zf ?_|refine zg ?_|refine za ?_|refine altF ?_|refine all fun _=>?_|refine both ?_ ?_|refine zu ?_|refine zv ?_|refine cho (fun _=>?_) fun _=>?_|refine zw ?_)
   refine again (passA k lq, w, out ++ outI b (some e)) (by dsimp only; omega) ⟨by dsimp only; omega, fun l hl => ?_, g3, by dsimp only; rw [List.length_append]; omega⟩ (by dsimp only; rw [hpl2]; exact Sub.refl _ _)
   obtain ⟨l', h1, rfl⟩ := passA_mem hl
   exact Nat.le_trans (passK_le k l') (g2 l' h1)
end Go.Ab

namespace Go.Ab
open Go.Proofs
theorem splitL_get {α : Type} {l : List α} {i : Nat} (h : i < manyP l.length) : (splitL l).getD i default = (l.drop (partAt l.length (manyP l.length) i)).take (l.length / manyP l.length + if i < l.length % manyP l.length then 1 else 0) := by
 rw [splitL_at, List.getD_eq_getElem?_getD, List.getElem?_map, List.getElem?_eq_getElem (by rw [List.length_range]; exact h), List.getElem_range]
 rfl
theorem rSplit_ok (l : List En) (m : SM) (hl : l.length ≤ 100000) : aPure Tryz.prog 37 [.lst 4 (l.map En.av) m] (.lst 1 ((splitL l).map enL) .ro) := by
 refine ACalls.fin (ref13_Split.go ?_)
 unfold ref13_Split.sh
 have hsl := splitL_len l
 have hM := manyP_le l.length
 repeat' (with_reducible first|apply Stp.go|refine imp fun _=>?_|refine zq ?_|refine zt ?_|refine zf ?_|refine zg ?_|refine za ?_|refine altF ?_|refine all fun _=>?_|refine both ?_ ?_|refine zu ?_|refine zv ?_|refine cho (fun _=>?_) fun _=>?_|refine zw ?_)
 rename_i v0
 refine loopI (β := Nat) (fun n => n ≤ manyP l.length) (fun n => [.lst 4 (l.map En.av) m, .own v0 0, I .i64 (n : Nat)]) (fun _ => [.row v0 EsT 1 (([] : List (List En)).map enL) 0]) (fun n => manyP l.length - n) 0 (Nat.zero_le _) (Sub.refl _ _) ?_
 intro n hn
 by_cases hlt : n < manyP l.length
 ·have h64 : n * 64 < l.length := by unfold manyP at hlt; omega
  repeat' (with_reducible first|apply Stp.go|refine imp fun _=>?_|refine zq ?_|refine zt ?_|refine zf ?_|refine zg ?_|refine za ?_|refine altF ?_|refine all fun _=>?_|refine both ?_ ?_|refine zu ?_|refine zv ?_|refine cho (fun _=>?_) fun _=>?_|refine zw ?_)
  exact again (n + 1) (by omega) (by omega) (Sub.refl _ _)
 ·have h64 : ¬ n * 64 < l.length := by omega
  have en : n = manyP l.length := by omega
  subst en
  repeat' (with_reducible first|apply Stp.go|refine imp fun _=>?_|refine zq ?_|refine zt ?_|refine zf ?_|refine zg ?_|refine za ?_|refine altF ?_|refine all fun _=>?_|refine both ?_ ?_|refine zu ?_|refine zv ?_|refine cho (fun _=>?_) fun _=>?_|refine zw ?_)
  generalize hMM : manyP l.length = M at *
  refine loopI (β := Nat × Value) (fun x => x.1 ≤ M) (fun x => [.lst 4 (l.map En.av) m, .own x.2 ((splitL l).take x.1).length, I .i64 (M : Nat), I .i64 (partAt l.length M x.1 : Nat), I .i64 (x.1 : Nat)])
   (fun x => [.row x.2 EsT 1 (((splitL l).take x.1).map enL) 0]) (fun x => M - x.1) (0, v0) (Nat.zero_le _) ?_ ?_
  ·have e0 : partAt l.length M 0 = 0 := by unfold partAt; simp
   dsimp only
   rw [e0]
   exact Sub.refl _ _
  rintro ⟨i, v⟩ h1
  dsimp only at h1 ⊢
  have hln : ((splitL l).take i).length ≤ 200000 := by rw [List.length_take]; omega
  by_cases hi : i < M
  ·have hg := splitL_get (l := l) (i := i) (by omega)
   rw [hMM] at hg
   have hps := partAt_succ l.length M i
   have hpl := (partAt_left (n := l.length) (many := M) (i := i + 1) (by omega)).1
   have hpl0 := (partAt_left (n := l.length) (many := M) (i := i) (by omega)).1
   have htk := take_succ_d (l := splitL l) (i := i) (by omega)
   rw [hg] at htk
   generalize partAt l.length M i = q at *
   repeat' (with_reducible first|apply Stp.go|refine imp fun _=>?_|refine zq ?_|refine zt ?_|refine zf ?_|refine zg ?_|refine za ?_|refine altF ?_|refine all fun _=>?_|refine both ?_ ?_|refine zu ?_|refine zv ?_|refine cho (fun _=>?_) fun _=>?_|refine zw ?_)
   refine joinI (β := Unit) (fun _ => True) (fun _ => [.lst 4 (l.map En.av) m, .own v ((splitL l).take i).length, I .i64 (M : Nat), I .i64 (q : Nat), I .i64 (i : Nat), I .i64 ((l.length / M + if i < l.length % M then 1 else 0 : Nat) : Nat)]) (fun _ => [.row v EsT 1 (((splitL l).take i).map enL) 0]) ?_ ?_
   ·by_cases hr : i < l.length % M
    ·rw [if_pos hr]
     repeat' (with_reducible first|apply Stp.go|refine imp fun _=>?_|refine zq ?_|refine zt ?_|refine zf ?_|refine zg ?_|refine za ?_|refine altF ?_|refine all fun _=>?_|refine both ?_ ?_|refine zu ?_|refine zv ?_|refine cho (fun _=>?_) fun _=>?_|refine zw ?_)
     exact meet () trivial (Sub.refl _ _)
    ·rw [if_neg hr, Nat.add_zero]
     repeat' (with_reducible first|apply Stp.go|refine imp fun _=>?_|refine zq ?_|refine zt ?_|refine zf ?_|refine zg ?_|refine za ?_|refine altF ?_|refine all fun _=>?_|refine both ?_ ?_|refine zu ?_|refine zv ?_|refine cho (fun _=>?_) fun _=>?_|refine zw ?_)
     exact meet () trivial (Sub.refl _ _)
   ·rintro ⟨⟩ -
    generalize (l.length / M + if i < l.length % M then 1 else 0) = n at *
    repeat' (with_reducible first|apply Stp.go|refine imp fun _=>?_|refine zq ?_|refine zt ?_|refine zf ?_|refine zg ?_|refine za ?_|refine altF ?_|refine all fun _=>?_|refine both ?_ ?_|refine zu ?_|refine zv ?_|refine cho (fun _=>?_) fun _=>?_|refine zw ?_)
    rename_i w
    have e1 : [] ++ List.drop q (List.take (q + n) l) = List.take n (List.drop q l) := by
     rw [List.nil_append, List.drop_take, Nat.add_sub_cancel_left]
    rw [e1]
    exact again (i + 1, w) (by dsimp only; omega) (by dsimp only; omega) (by dsimp only; rw [htk, hps]; exact Sub.refl _ _)
  ·have ei : i = M := by omega
   subst ei
   rw [List.take_of_length_le (by omega)]
   repeat' (with_reducible first|apply Stp.go|refine imp fun _=>?_|refine zq ?_|refine zt ?_|refine zf ?_|refine zg ?_|refine za ?_|refine altF ?_|refine all fun _=>?_|refine both ?_ ?_|refine zu ?_|refine zv ?_|refine cho (fun _=>?_) fun _=>?_|refine zw ?_)
   exact ⟨_, _, _, rfl, retOwn (Sub.refl _ _), rfl, rfl⟩
instance {a : AV} {l : List En} {m : SM} [h : IsL a En.av 4 l m] : PC Tryz.prog 37 [a] (l.length ≤ 100000) (.lst 1 ((splitL l).map enL) .ro) := ⟨fun hl => ⟨[.lst 4 (l.map En.av) m], ⟨h.sub, trivial⟩, rSplit_ok l m hl⟩⟩
instance {a : AV} {ls : List (List En)} {b : Bool} {m : SM} [h : IsL a enL 1 ls m] : PC Tryz.prog 38 [a, .val (.bool b)] (ls.length ≤ 1000 ∧ ∀ l ∈ ls, l.length ≤ 1000) (.lst 4 ((mergeL b ls).map En.av) .ro) := ⟨fun hl => ⟨[.lst 1 (ls.map enL) m, B b], ⟨h.sub, SubV.refl _, trivial⟩, rMerge_ok ls b m hl.1 hl.2⟩⟩
end Go.Ab

namespace Go.Ab
open Go.Proofs
def ref15_Of.mark : Mark := ⟨fun t => false, fun t => false, fun t => false, fun t => Nat.beq t 17, fun t => false⟩
def ref15_Of.ann : Ann := ⟨fun n => bif Nat.beq n 3 then [0, 1, 5, 6] else [], fun n => none, fun n => none⟩
def ref15_Of.sh (a0 a1 : AV) (σ : Store) (Q : AEnd → Store → Prop) : Prop :=
 aLoop (fun go vs σ =>
 At vs 0 fun s0 => At vs 1 fun s1 => At vs 2 fun s5 => At vs 3 fun s6 => Do (aBuiltin Tryz.prog .len #[24] [s0]) fun t9 =>
 Do (aBin Tryz.prog .lss 3 s6 t9) fun t10 =>
 aCond t10
 (Do (aIndexAddr .slice 36 s0 s6) fun t15 =>
 Do (aFieldAddr 0 1 t15) fun t16 =>
 Do (loadF false 1 t16) fun t17 =>
 Do (aBin Tryz.prog .eql 3 t17 s1) fun t19 =>
 aCond t19
 (Do (aBin Tryz.prog .add 3 s5 (.val (.int .i64 1))) fun t21 =>
 Do (aBin Tryz.prog .add 3 s6 (.val (.int .i64 1))) fun t12 =>
 go [s0, s1, t21, t12] σ)
 (Do (aBin Tryz.prog .add 3 s6 (.val (.int .i64 1))) fun t12_1 =>
 go [s0, s1, s5, t12_1] σ))
 (Q (.ret s5) σ))
 [a0, a1, (.val (.int .i64 0)), (.val (.int .i64 0))] σ
theorem ref15_Of.eq (a0 a1 : AV) (σ : Store) (Q : AEnd → Store → Prop) : vc (semOf Tryz.prog ref15_Of.mark) Tryz.f65.ntmps ref15_Of.ann (bodyOf Tryz.f65) (endK [.tmp 4] Q) (argFr [a0, a1]) σ = ref15_Of.sh a0 a1 σ Q := by kernel_rfl
theorem ref15_Of.go {a0 a1 : AV} {σ : Store} {Q : AEnd → Store → Prop} (h : ref15_Of.sh a0 a1 σ Q) : ACalls Tryz.prog 65 [a0, a1] σ Q :=
 acalls_of_eq [.tmp 4] Tryz.func65 (by kernel_rfl) (by kernel_rfl) (by kernel_rfl) (by kernel_rfl) (ref15_Of.eq a0 a1 σ Q) h
def ref15_Cap.mark : Mark := ⟨fun t => false, fun t => false, fun t => false, fun t => false, fun t => false⟩
def ref15_Cap.ann : Ann := ⟨fun n => [], fun n => none, fun n => none⟩
def ref15_Cap.sh (a0 : AV) (σ : Store) (Q : AEnd → Store → Prop) : Prop :=
 Do (aBin Tryz.prog .eql 3 a0 (.val (.int .i64 0))) fun t5 =>
 aCond t5
 (Q (.ret (.val (.int .i64 4))) σ)
 (Do (aBin Tryz.prog .eql 3 a0 (.val (.int .i64 1))) fun t7 =>
 aCond t7
 (Q (.ret (.val (.int .i64 8))) σ)
 (Do (aBin Tryz.prog .eql 3 a0 (.val (.int .i64 2))) fun t9 =>
 aCond t9
 (Q (.ret (.val (.int .i64 32))) σ)
 (Q (.ret (.val (.int .i64 (-1)))) σ)))
theorem ref15_Cap.eq (a0 : AV) (σ : Store) (Q : AEnd → Store → Prop) : vc (semOf Tryz.prog ref15_Cap.mark) Tryz.f66.ntmps ref15_Cap.ann (bodyOf Tryz.f66) (endK [.tmp 2] Q) (argFr [a0]) σ = ref15_Cap.sh a0 σ Q := by kernel_rfl
theorem ref15_Cap.go {a0 : AV} {σ : Store} {Q : AEnd → Store → Prop} (h : ref15_Cap.sh a0 σ Q) : ACalls Tryz.prog 66 [a0] σ Q :=
 acalls_of_eq [.tmp 2] Tryz.func66 (by kernel_rfl) (by kernel_rfl) (by kernel_rfl) (by kernel_rfl) (ref15_Cap.eq a0 σ Q) h
theorem ownP_take (l : List TabR) (k i : Nat) (h : i < l.length) : ((List.range (i + 1)).filter fun j => onP (k : Nat) (l.getD j default)).length = ((List.range i).filter fun j => onP (k : Nat) (l.getD j default)).length + if (l.getD i default).lev = (k : Nat) then 1 else 0 := by
 rw [List.range_succ, List.filter_append, List.length_append]
 congr 1
 by_cases h0 : (l.getD i default).lev = (k : Nat)
 ·rw [if_pos h0, List.filter_cons_of_pos (by unfold onP; rw [decide_eq_true h0])]; rfl
 ·rw [if_neg h0, List.filter_cons_of_neg (by unfold onP; rw [decide_eq_false h0]; decide)]; rfl
theorem rOf_ok (l : List TabR) (m : SM) (k : Nat) (hl : l.length ≤ 1000000) (hk : k ≤ 10) : aPure Tryz.prog 65 [.lst 36 (l.map tbF) m, I .i64 (k : Nat)] (I .i64 ((ownP l k).length : Nat)) := by
 refine ACalls.fin (ref15_Of.go ?_)
 unfold ref15_Of.sh
 repeat' (with_reducible first|apply Stp.go|refine imp fun _=>?_|refine zq ?_|refine zt ?_|refine zf ?_|refine zg ?_|refine za ?_|refine altF ?_|refine all fun _=>?_|refine both ?_ ?_|refine zu ?_|refine zv ?_|refine cho (fun _=>?_) fun _=>?_|refine zw ?_)
 refine loopI (β := Nat) (fun i => i ≤ l.length) (fun i => [.lst 36 (l.map tbF) m, I .i64 (k : Nat), I .i64 (((List.range i).filter fun j => onP (k : Nat) (l.getD j default)).length : Nat), I .i64 (i : Nat)]) (fun _ => []) (fun i => l.length - i) 0 (Nat.zero_le _) (Sub.refl _ _) ?_
 intro i hi
 have hc : ((List.range i).filter fun j => onP (k : Nat) (l.getD j default)).length ≤ i := Nat.le_trans (List.length_filter_le _ _) (by rw [List.length_range]; exact Nat.le_refl _)
 by_cases hil : i < l.length
 ·have hs := ownP_take l k i hil
  by_cases h0 : (l.getD i default).lev = (k : Nat)
  ·rw [if_pos h0] at hs
   repeat' (with_reducible first|apply Stp.go|refine imp fun _=>?_|refine zq ?_|refine zt ?_|refine zf ?_|refine zg ?_|refine za ?_|refine altF ?_|refine all fun _=>?_|refine both ?_ ?_|refine zu ?_|refine zv ?_|refine cho (fun _=>?_) fun _=>?_|refine zw ?_)
   exact again (i + 1) (by omega) (by omega) (by rw [hs]; exact Sub.refl _ _)
  ·rw [if_neg h0] at hs
   repeat' (with_reducible first|apply Stp.go|refine imp fun _=>?_|refine zq ?_|refine zt ?_|refine zf ?_|refine zg ?_|refine za ?_|refine altF ?_|refine all fun _=>?_|refine both ?_ ?_|refine zu ?_|refine zv ?_|refine cho (fun _=>?_) fun _=>?_|refine zw ?_)
   exact again (i + 1) (by omega) (by omega) (by rw [hs]; exact Sub.refl _ _)
 ·have e : i = l.length := by omega
  subst e
  repeat' (with_reducible first|apply Stp.go|refine imp fun _=>?_|refine zq ?_|refine zt ?_|refine zf ?_|refine zg ?_|refine za ?_|refine altF ?_|refine all fun _=>?_|refine both ?_ ?_|refine zu ?_|refine zv ?_|refine cho (fun _=>?_) fun _=>?_|refine zw ?_)
  exact ⟨_, _, _, rfl, Sub.refl _ _, rfl, rfl⟩
instance {a : AV} {l : List TabR} {m : SM} {k : Nat} {x : Int} [h : IsL a tbF 36 l m] [hx : NatOf x k] : PC Tryz.prog 65 [a, .val (.int .i64 x)] (l.length ≤ 1000000 ∧ k ≤ 10) (I .i64 ((ownP l k).length : Nat)) := ⟨fun hl => by rw [hx.eq]; exact ⟨[.lst 36 (l.map tbF) m, I .i64 (k : Nat)], ⟨h.sub, SubVs.refl _⟩, rOf_ok l m k hl.1 hl.2⟩⟩
theorem rCap_ok (k : Nat) (hk : k < 3) : aPure Tryz.prog 66 [I .i64 (k : Nat)] (I .i64 (capT k : Nat)) := by
 refine ref15_Cap.go ?_
 unfold ref15_Cap.sh
 have hk3 : k = 0 ∨ k = 1 ∨ k = 2 := by omega
 rcases hk3 with rfl | rfl | rfl
 ·repeat' (with_reducible first|apply Stp.go|refine imp fun _=>?_|refine zq ?_|refine zt ?_|refine zf ?_|refine zg ?_|refine za ?_|refine altF ?_|refine all fun _=>?_|refine both ?_ ?_|refine zu ?_|refine zv ?_|refine cho (fun _=>?_) fun _=>?_|refine zw ?_)
  exact ⟨rfl, rfl⟩
 ·repeat' (with_reducible first|apply Stp.go|refine imp fun _=>?_|refine zq ?_|refine zt ?_|refine zf ?_|refine zg ?_|refine za ?_|refine altF ?_|refine all fun _=>?_|refine both ?_ ?_|refine zu ?_|refine zv ?_|refine cho (fun _=>?_) fun _=>?_|refine zw ?_)
  exact ⟨rfl, rfl⟩
 ·repeat' (with_reducible first|apply Stp.go|refine imp fun _=>?_|refine zq ?_|refine zt ?_|refine zf ?_|refine zg ?_|refine za ?_|refine altF ?_|refine all fun _=>?_|refine both ?_ ?_|refine zu ?_|refine zv ?_|refine cho (fun _=>?_) fun _=>?_|refine zw ?_)
  exact ⟨rfl, rfl⟩
instance {k : Nat} {x : Int} [hx : NatOf x k] : PC Tryz.prog 66 [.val (.int .i64 x)] (k < 3) (I .i64 (capT k : Nat)) := ⟨fun hl => by rw [hx.eq]; exact PC.of (rCap_ok k hl)⟩
instance : Enc bV 1 := ⟨fun n => ⟨rfl, fun c hc => by
 have hc : c ∈ [bV n] := hc
 rw [List.mem_singleton.1 hc]; rfl⟩, by decide, fun _ => rfl⟩
instance : ElemF [.val (.bool false)] Bool bV := ⟨trivial⟩
instance (n : Bool) : Cells (bV n) [bV n] := ⟨rfl⟩
def ownI (l : List TabR) (k i : Nat) : List Nat := if k = 0 then (List.range i).filter (fun j => onP (k : Nat) (l.getD j default)) else ((List.range i).filter fun j => onP (k : Nat) (l.getD j default)).take 1
def isB (l : List TabR) (k i : Nat) : Bool := decide ((l.getD i default).lev = (k : Nat)) && (decide (k = 0) || decide ((ownI l k i).length = 0))
theorem ownI_succ (l : List TabR) (k i : Nat) : ownI l k (i + 1) = ownI l k i ++ if isB l k i = true then [i] else [] := by
 have hf : (List.range (i + 1)).filter (fun j => onP (k : Nat) (l.getD j default)) = (List.range i).filter (fun j => onP (k : Nat) (l.getD j default)) ++ if (l.getD i default).lev = (k : Nat) then [i] else [] := by
  rw [List.range_succ, List.filter_append]
  congr 1
  by_cases h : (l.getD i default).lev = (k : Nat)
  ·rw [if_pos h, List.filter_cons_of_pos (by unfold onP; rw [decide_eq_true h])]; rfl
  ·rw [if_neg h, List.filter_cons_of_neg (by unfold onP; rw [decide_eq_false h]; decide)]; rfl
 unfold isB
 by_cases hk : k = 0
 ·unfold ownI
  rw [if_pos hk, if_pos hk, hf, decide_eq_true hk, Bool.true_or, Bool.and_true]
  congr 1
  by_cases h : (l.getD i default).lev = (k : Nat)
  ·rw [if_pos h, if_pos (decide_eq_true h)]
  ·rw [if_neg h, if_neg (by rw [decide_eq_false h]; decide)]
 ·rw [decide_eq_false hk, Bool.false_or]
  unfold ownI
  rw [if_neg hk, if_neg hk, hf]
  generalize (List.range i).filter (fun j => onP (k : Nat) (l.getD j default)) = p
  cases p with
  | nil =>
   by_cases h : (l.getD i default).lev = (k : Nat)
   ·rw [if_pos h, decide_eq_true h]; rfl
   ·rw [if_neg h, decide_eq_false h]; rfl
  | cons a p =>
   have h1 : ¬ ((a :: p).take 1).length = 0 := by simp
   simp only [decide_eq_false h1, Bool.and_false, Bool.false_eq_true, if_false, List.append_nil]
   rfl
theorem ownI_all (l : List TabR) (k : Nat) : ownI l k l.length = ownK l k := rfl
theorem mem_ownI (l : List TabR) (k j : Nat) : ∀ i, j ∈ ownI l k i ↔ j < i ∧ isB l k j = true
 | 0 => by
  unfold ownI
  split <;> simp
 | i + 1 => by
  rw [ownI_succ, List.mem_append, mem_ownI l k j i]
  by_cases h : isB l k i = true
  ·rw [if_pos h, List.mem_singleton]
   constructor
   ·rintro (h1 | rfl)
    ·exact ⟨by omega, h1.2⟩
    ·exact ⟨by omega, h⟩
   ·rintro ⟨h1, h2⟩
    by_cases e : j = i
    ·exact .inr e
    ·exact .inl ⟨by omega, h2⟩
  ·rw [if_neg h]
   constructor
   ·rintro (h1 | h1)
    ·exact ⟨by omega, h1.2⟩
    ·cases h1
   ·rintro ⟨h1, h2⟩
    refine .inl ⟨?_, h2⟩
    by_cases e : j = i
    ·subst e; exact (h h2).elim
    ·omega
def frI (l : List TabR) (O : List Nat) : List UInt8 := if O.length = 0 then [] else O.foldl (fun s i => lowS s (l.getD i default).fst) (l.getD (O.getD 0 default) default).fst
def toI (l : List TabR) (O : List Nat) : List UInt8 := if O.length = 0 then [] else O.foldl (fun s i => highS s (l.getD i default).lst) (l.getD (O.getD 0 default) default).lst
theorem lowS_same (a : List UInt8) : lowS a a = a := by unfold lowS; split <;> rfl
theorem highS_same (a : List UInt8) : highS a a = a := by unfold highS; split <;> rfl
theorem frI_snoc (l : List TabR) (O : List Nat) (i : Nat) : frI l (O ++ [i]) = if O.length = 0 then (l.getD i default).fst else lowS (frI l O) (l.getD i default).fst := by
 unfold frI
 rw [if_neg (by rw [List.length_append, List.length_singleton]; omega)]
 cases O with
 | nil =>
  show lowS _ _ = _
  exact lowS_same _
 | cons a O =>
  rw [if_neg (by rw [List.length_cons]; omega), if_neg (by rw [List.length_cons]; omega), List.foldl_append]
  rfl
theorem toI_snoc (l : List TabR) (O : List Nat) (i : Nat) : toI l (O ++ [i]) = if O.length = 0 then (l.getD i default).lst else highS (toI l O) (l.getD i default).lst := by
 unfold toI
 rw [if_neg (by rw [List.length_append, List.length_singleton]; omega)]
 cases O with
 | nil =>
  show highS _ _ = _
  exact highS_same _
 | cons a O =>
  rw [if_neg (by rw [List.length_cons]; omega), if_neg (by rw [List.length_cons]; omega), List.foldl_append]
  rfl
def ref15_Pick.mark : Mark := ⟨fun t => Nat.beq t 19 || Nat.beq t 21, fun t => Nat.beq t 28 || Nat.beq t 88, fun t => false, fun t => Nat.beq t 39 || Nat.beq t 63 || Nat.beq t 71 || Nat.beq t 79 || Nat.beq t 87 || Nat.beq t 104 || Nat.beq t 113 || Nat.beq t 122, fun t => false⟩
def ref15_Pick.ann : Ann := ⟨fun n => bif Nat.beq n 2 then [0, 5] else bif Nat.beq n 11 then [0, 5, 6, 7, 8, 9, 10] else bif Nat.beq n 23 then [0, 5, 6, 7, 9, 12, 13] else [], fun n => bif Nat.beq n 18 then some [0, 5, 6, 7, 8, 9, 10] else none, fun n => none⟩
def ref15_Pick.sh (a0 : AV) (σ : Store) (Q : AEnd → Store → Prop) : Prop :=
 aLoop (fun go vs σ =>
 At vs 0 fun s0 => At vs 1 fun s5 => Do (aBin Tryz.prog .lss 3 s5 (.val (.int .i64 3))) fun t15 =>
 Do (aGuard t15 true (aIs s0)) fun t17 =>
 Do (aGuard t15 true (aIs s5)) fun t18 =>
 Do (aGuard t15 true (aPureC Tryz.prog 65 [t17, t18])) fun t19 =>
 Do (aGuard t15 true (aIs s5)) fun t20 =>
 Do (aGuard t15 true (aPureC Tryz.prog 66 [t20])) fun t21 =>
 Do (aGuard t15 true (aBin Tryz.prog .leq 3 t19 t21)) fun t22 =>
 Do (aPick t15 t22 (.val (.bool false))) fun t23 =>
 aCond t23
 (Do (aBin Tryz.prog .add 3 s5 (.val (.int .i64 1))) fun t25 =>
 go [s0, t25] σ)
 (Do (aBin Tryz.prog .eql 3 s5 (.val (.int .i64 3))) fun t27 =>
 aCond t27
 (Q (.ret (.tuple [(.val (.slice none 0 0)), (.val (.int .i64 0)), (.val (.bool false))])) σ)
 (aRowL 4 (mkE [.val (.bool false)]) 1 0 [] σ fun t28 σ_1 =>
 aLoop (fun go_1 vs_1 σ_2 =>
 At vs_1 0 fun s0_1 => At vs_1 1 fun s5_1 => At vs_1 2 fun s6 => At vs_1 3 fun s7 => At vs_1 4 fun s8 => At vs_1 5 fun s9 => At vs_1 6 fun s10 => Do (aBuiltin Tryz.prog .len #[24] [s0_1]) fun t31 =>
 Do (aBin Tryz.prog .lss 3 s10 t31) fun t32 =>
 aCond t32
 (Do (aIndexAddr .slice 36 s0_1 s10) fun t37 =>
 Do (aFieldAddr 0 1 t37) fun t38 =>
 Do (loadF false 1 t38) fun t39 =>
 Do (aBin Tryz.prog .eql 3 t39 s5_1) fun t41 =>
 Do (aGuard t41 true (aIs s5_1)) fun t43 =>
 Do (aGuard t41 true (aBin Tryz.prog .eql 3 t43 (.val (.int .i64 0)))) fun t44 =>
 Do (aGuard t41 true (aIs t44)) fun t45 =>
 Do (aGuard t45 false (aIs s8)) fun t46 =>
 Do (aGuard t45 false (aUn Tryz.prog .not t46)) fun t47 =>
 Do (aGuard t41 true (aPick t45 (.val (.bool true)) t47)) fun t48 =>
 Do (aPick t41 t48 (.val (.bool false))) fun t49 =>
 Do (aSlLit (mkE [.val (.bool false)]) 1 1 [(0, t49)]) fun t52 =>
 aAppend 4 1 1 s9 t52 σ_2 (subK fun t53 σ_3 =>
 Do (aUn Tryz.prog .not t49) fun t55 =>
 aCond t55
 (Do (aBin Tryz.prog .add 3 s10 (.val (.int .i64 1))) fun t34 =>
 go_1 [s0_1, s5_1, s6, s7, s8, t53, t34] σ_3)
 (aJoin (fun j =>
 Do (aUn Tryz.prog .not s8) fun t57 =>
 Do (aGuard t57 false (aIs s0_1)) fun t59 =>
 Do (aGuard t57 false (aIs s10)) fun t60 =>
 Do (aGuard t57 false (aIndexAddr .slice 36 t59 t60)) fun t61 =>
 Do (aGuard t57 false (aFieldAddr 34 1 t61)) fun t62 =>
 Do (aGuard t57 false (loadF false 1 t62)) fun t63 =>
 Do (aGuard t57 false (aIs s6)) fun t64 =>
 Do (aGuard t57 false (aBin Tryz.prog .lss 9 t63 t64)) fun t65 =>
 Do (aPick t57 (.val (.bool true)) t65) fun t66 =>
 aCond t66
 (Do (aIndexAddr .slice 36 s0_1 s10) fun t69 =>
 Do (aFieldAddr 34 1 t69) fun t70 =>
 Do (loadF false 1 t70) fun t71 =>
 j [s0_1, s5_1, t71, s7, s8, t53, s10] σ_3)
 (j [s0_1, s5_1, s6, s7, s8, t53, s10] σ_3)) fun vs_2 σ_4 =>
 At vs_2 0 fun s0_2 => At vs_2 1 fun s5_2 => At vs_2 2 fun s6_1 => At vs_2 3 fun s7_1 => At vs_2 4 fun s8_1 => At vs_2 5 fun s9_1 => At vs_2 6 fun s10_1 => Do (aUn Tryz.prog .not s8_1) fun t73 =>
 Do (aGuard t73 false (aIs s0_2)) fun t75 =>
 Do (aGuard t73 false (aIs s10_1)) fun t76 =>
 Do (aGuard t73 false (aIndexAddr .slice 36 t75 t76)) fun t77 =>
 Do (aGuard t73 false (aFieldAddr 35 1 t77)) fun t78 =>
 Do (aGuard t73 false (loadF false 1 t78)) fun t79 =>
 Do (aGuard t73 false (aIs s7_1)) fun t80 =>
 Do (aGuard t73 false (aBin Tryz.prog .gtr 9 t79 t80)) fun t81 =>
 Do (aPick t73 (.val (.bool true)) t81) fun t82 =>
 aCond t82
 (Do (aIndexAddr .slice 36 s0_2 s10_1) fun t85 =>
 Do (aFieldAddr 35 1 t85) fun t86 =>
 Do (loadF false 1 t86) fun t87 =>
 Do (aBin Tryz.prog .add 3 s10_1 (.val (.int .i64 1))) fun t34_1 =>
 go_1 [s0_2, s5_2, s6_1, t87, (.val (.bool true)), s9_1, t34_1] σ_4)
 (Do (aBin Tryz.prog .add 3 s10_1 (.val (.int .i64 1))) fun t34_2 =>
 go_1 [s0_2, s5_2, s6_1, s7_1, (.val (.bool true)), s9_1, t34_2] σ_4))))
 (aRowL 3 (mkE [.val (.int .i64 0)]) 1 0 [] σ_2 fun t88 σ_5 =>
 aLoop (fun go_2 vs_3 σ_6 =>
 At vs_3 0 fun s0_3 => At vs_3 1 fun s5_3 => At vs_3 2 fun s6_2 => At vs_3 3 fun s7_2 => At vs_3 4 fun s9_2 => At vs_3 5 fun s12 => At vs_3 6 fun s13 => Do (aBuiltin Tryz.prog .len #[24] [s0_3]) fun t91 =>
 Do (aBin Tryz.prog .lss 3 s13 t91) fun t92 =>
 aCond t92
 (Do (aIndexAddr .slice 1 s9_2 s13) fun t97 =>
 Do (loadA false 1 t97 σ_6) fun t98 =>
 Do (aGuard t98 false (aIs s0_3)) fun t100 =>
 Do (aGuard t98 false (aIs s13)) fun t101 =>
 Do (aGuard t98 false (aIndexAddr .slice 36 t100 t101)) fun t102 =>
 Do (aGuard t98 false (aFieldAddr 0 1 t102)) fun t103 =>
 Do (aGuard t98 false (loadF false 1 t103)) fun t104 =>
 Do (aGuard t98 false (aIs s5_3)) fun t105 =>
 Do (aGuard t98 false (aBin Tryz.prog .add 3 t105 (.val (.int .i64 1)))) fun t106 =>
 Do (aGuard t98 false (aBin Tryz.prog .eql 3 t104 t106)) fun t107 =>
 Do (aGuard t98 false (aIs t107)) fun t108 =>
 Do (aGuard t108 true (aIs s0_3)) fun t109 =>
 Do (aGuard t108 true (aIs s13)) fun t110 =>
 Do (aGuard t108 true (aIndexAddr .slice 36 t109 t110)) fun t111 =>
 Do (aGuard t108 true (aFieldAddr 34 1 t111)) fun t112 =>
 Do (aGuard t108 true (loadF false 1 t112)) fun t113 =>
 Do (aGuard t108 true (aIs s7_2)) fun t114 =>
 Do (aGuard t108 true (aBin Tryz.prog .leq 9 t113 t114)) fun t115 =>
 Do (aGuard t98 false (aPick t108 t115 (.val (.bool false)))) fun t116 =>
 Do (aGuard t98 false (aIs t116)) fun t117 =>
 Do (aGuard t117 true (aIs s0_3)) fun t118 =>
 Do (aGuard t117 true (aIs s13)) fun t119 =>
 Do (aGuard t117 true (aIndexAddr .slice 36 t118 t119)) fun t120 =>
 Do (aGuard t117 true (aFieldAddr 35 1 t120)) fun t121 =>
 Do (aGuard t117 true (loadF false 1 t121)) fun t122 =>
 Do (aGuard t117 true (aIs s6_2)) fun t123 =>
 Do (aGuard t117 true (aBin Tryz.prog .geq 9 t122 t123)) fun t124 =>
 Do (aGuard t98 false (aPick t117 t124 (.val (.bool false)))) fun t125 =>
 Do (aPick t98 (.val (.bool true)) t125) fun t126 =>
 aCond t126
 (Do (aSlLit (mkE [.val (.int .i64 0)]) 1 1 [(0, s13)]) fun t129 =>
 aAppend 3 1 8 s12 t129 σ_6 (subK fun t130 σ_7 =>
 Do (aBin Tryz.prog .add 3 s13 (.val (.int .i64 1))) fun t94 =>
 go_2 [s0_3, s5_3, s6_2, s7_2, s9_2, t130, t94] σ_7))
 (Do (aBin Tryz.prog .add 3 s13 (.val (.int .i64 1))) fun t94_1 =>
 go_2 [s0_3, s5_3, s6_2, s7_2, s9_2, s12, t94_1] σ_6))
 (Do (aBin Tryz.prog .add 3 s5_3 (.val (.int .i64 1))) fun t133 =>
 Q (.ret (.tuple [s12, t133, (.val (.bool true))])) σ_6))
 [s0_1, s5_1, s6, s7, s9, t88, (.val (.int .i64 0))] σ_5))
 [s0, s5, (.val (.string ⟨#[]⟩)), (.val (.string ⟨#[]⟩)), (.val (.bool false)), t28, (.val (.int .i64 0))] σ_1)))
 [a0, (.val (.int .i64 0))] σ
theorem ref15_Pick.eq (a0 : AV) (σ : Store) (Q : AEnd → Store → Prop) : vc (semOf Tryz.prog ref15_Pick.mark) Tryz.f33.ntmps ref15_Pick.ann (bodyOf Tryz.f33) (endK [.tmp 2, .tmp 3, .tmp 4] Q) (argFr [a0]) σ = ref15_Pick.sh a0 σ Q := by kernel_rfl
theorem ref15_Pick.go {a0 : AV} {σ : Store} {Q : AEnd → Store → Prop} (h : ref15_Pick.sh a0 σ Q) : ACalls Tryz.prog 33 [a0] σ Q :=
 acalls_of_eq [.tmp 2, .tmp 3, .tmp 4] Tryz.func33 (by kernel_rfl) (by kernel_rfl) (by kernel_rfl) (by kernel_rfl) (ref15_Pick.eq a0 σ Q) h
theorem rPick_ok (l : List TabR) (m : SM) (hl : l.length ≤ 1000000) : aPure Tryz.prog 33 [.lst 36 (l.map tbF) m] (pickR l) := by
 refine ACalls.fin (ref15_Pick.go ?_)
 unfold ref15_Pick.sh
 repeat' (with_reducible first|apply Stp.go|refine imp fun _=>?_|refine zq ?_|refine zt ?_|refine zf ?_|refine zg ?_|refine za ?_|refine altF ?_|refine all fun _=>?_|refine both ?_ ?_|refine zu ?_|refine zv ?_|refine cho (fun _=>?_) fun _=>?_|refine zw ?_)
 refine loopI (β := Nat) (fun k => k ≤ 3 ∧ ∀ j, j < k → hot l j = false) (fun k => [.lst 36 (l.map tbF) m, I .i64 (k : Nat)]) (fun _ => []) (fun k => 3 - k) 0 ⟨Nat.zero_le _, fun j h => absurd h (Nat.not_lt_zero _)⟩ (Sub.refl _ _) ?_
 rintro k ⟨hk, hn⟩
 have hpl := ownP_len l k
 have hcap : capT k ≤ 32 := by unfold capT; split <;> decide
 by_cases h3 : k < 3
 ·by_cases hh : hot l k = true
  ·have hh2 : capT k < (ownP l k).length := by unfold hot at hh; exact of_decide_eq_true hh
   have hlv := lvlT_of h3 hh hn
   have hop := ownK_pos hh
   unfold pickR
   rw [hlv, if_pos h3]
   repeat' (with_reducible first|apply Stp.go|refine imp fun _=>?_|refine zq ?_|refine zt ?_|refine zf ?_|refine zg ?_|refine za ?_|refine altF ?_|refine all fun _=>?_|refine both ?_ ?_|refine zu ?_|refine zv ?_|refine cho (fun _=>?_) fun _=>?_|refine zw ?_)
   rename_i v0
   refine loopI (β := Nat × Value) (fun x => x.1 ≤ l.length)
    (fun x => [.lst 36 (l.map tbF) m, I .i64 (k : Nat), S (frI l (ownI l k x.1)), S (toI l (ownI l k x.1)), B (decide (0 < (ownI l k x.1).length)), .own x.2 ((List.range x.1).map (isB l k)).length, I .i64 (x.1 : Nat)])
    (fun x => [.row x.2 4 1 (((List.range x.1).map (isB l k)).map bV) 0]) (fun x => l.length - x.1) (0, v0) (Nat.zero_le _) ?_ ?_
   ·have e0 : ownI l k 0 = [] := by unfold ownI; split <;> rfl
    dsimp only
    rw [e0]
    exact Sub.refl _ _
   rintro ⟨i, v⟩ q1
   dsimp only at q1 ⊢
   have hml : ((List.range i).map (isB l k)).length = i := by rw [List.length_map, List.length_range]
   have hms : (List.range (i + 1)).map (isB l k) = (List.range i).map (isB l k) ++ [isB l k i] := by rw [List.range_succ, List.map_append]; rfl
   have htt : (true : Bool) = true := rfl
   have hff : ¬ (false : Bool) = true := by decide
   by_cases hil : i < l.length
   ·have hos := ownI_succ l k i
    have hfs := frI_snoc l (ownI l k i) i
    have hts := toI_snoc l (ownI l k i) i
    generalize hO : ownI l k i = O at *
    have hib : isB l k i = (decide ((l.getD i default).lev = (k : Nat)) && (decide (k = 0) || decide (O.length = 0))) := by unfold isB; rw [hO]
    generalize hM : (List.range i).map (isB l k) = M at *
    have hMl : M.length ≤ 1000000 := by omega
    by_cases c1 : (l.getD i default).lev = (k : Nat)
    ·by_cases c4 : k = 0 ∨ O.length = 0
     ·have hb : isB l k i = true := by
       rw [hib, decide_eq_true c1, Bool.true_and]
       rcases c4 with c | c
       ·rw [decide_eq_true c]; rfl
       ·rw [decide_eq_true c, Bool.or_true]
      rw [hb] at hms hos
      rw [if_pos rfl] at hos
      have e5 : decide (0 < (O ++ [i]).length) = true := by rw [List.length_append, List.length_singleton]; exact decide_eq_true (Nat.succ_pos _)
      by_cases c3 : O.length = 0
      ·rw [if_pos c3] at hfs hts
       rw [decide_eq_false (show ¬ 0 < O.length by omega)]
       by_cases c2 : k = 0
       ·repeat' (with_reducible first|apply Stp.go|refine imp fun _=>?_|refine zq ?_|refine zt ?_|refine zf ?_|refine zg ?_|refine za ?_|refine altF ?_|refine all fun _=>?_|refine both ?_ ?_|refine zu ?_|refine zv ?_|refine cho (fun _=>?_) fun _=>?_|refine zw ?_)
        rename_i w
        refine joinI (β := Unit) (fun _ => True) (fun _ => [.lst 36 (l.map tbF) m, I .i64 (k : Nat), S (l.getD i default).fst, S (toI l O), B false, .own w (M ++ [true]).length, I .i64 (i : Nat)]) (fun _ => [.row w 4 1 ((M ++ [true]).map bV) 0]) ?_ ?_
        ·repeat' (with_reducible first|apply Stp.go|refine imp fun _=>?_|refine zq ?_|refine zt ?_|refine zf ?_|refine zg ?_|refine za ?_|refine altF ?_|refine all fun _=>?_|refine both ?_ ?_|refine zu ?_|refine zv ?_|refine cho (fun _=>?_) fun _=>?_|refine zw ?_)
         exact meet () trivial (Sub.refl _ _)
        ·rintro ⟨⟩ -
         repeat' (with_reducible first|apply Stp.go|refine imp fun _=>?_|refine zq ?_|refine zt ?_|refine zf ?_|refine zg ?_|refine za ?_|refine altF ?_|refine all fun _=>?_|refine both ?_ ?_|refine zu ?_|refine zv ?_|refine cho (fun _=>?_) fun _=>?_|refine zw ?_)
         exact again (i + 1, w) (by dsimp only; omega) (by dsimp only; omega) (by dsimp only; rw [hos, hms, hfs, hts, e5]; exact Sub.refl _ _)
       ·repeat' (with_reducible first|apply Stp.go|refine imp fun _=>?_|refine zq ?_|refine zt ?_|refine zf ?_|refine zg ?_|refine za ?_|refine altF ?_|refine all fun _=>?_|refine both ?_ ?_|refine zu ?_|refine zv ?_|refine cho (fun _=>?_) fun _=>?_|refine zw ?_)
        rename_i w
        refine joinI (β := Unit) (fun _ => True) (fun _ => [.lst 36 (l.map tbF) m, I .i64 (k : Nat), S (l.getD i default).fst, S (toI l O), B false, .own w (M ++ [true]).length, I .i64 (i : Nat)]) (fun _ => [.row w 4 1 ((M ++ [true]).map bV) 0]) ?_ ?_
        ·repeat' (with_reducible first|apply Stp.go|refine imp fun _=>?_|refine zq ?_|refine zt ?_|refine zf ?_|refine zg ?_|refine za ?_|refine altF ?_|refine all fun _=>?_|refine both ?_ ?_|refine zu ?_|refine zv ?_|refine cho (fun _=>?_) fun _=>?_|refine zw ?_)
         exact meet () trivial (Sub.refl _ _)
        ·rintro ⟨⟩ -
         repeat' (with_reducible first|apply Stp.go|refine imp fun _=>?_|refine zq ?_|refine zt ?_|refine zf ?_|refine zg ?_|refine za ?_|refine altF ?_|refine all fun _=>?_|refine both ?_ ?_|refine zu ?_|refine zv ?_|refine cho (fun _=>?_) fun _=>?_|refine zw ?_)
         exact again (i + 1, w) (by dsimp only; omega) (by dsimp only; omega) (by dsimp only; rw [hos, hms, hfs, hts, e5]; exact Sub.refl _ _)
      ·rw [if_neg c3] at hfs hts
       rw [decide_eq_true (show 0 < O.length by omega)]
       have c2 : k = 0 := by omega
       repeat' (with_reducible first|apply Stp.go|refine imp fun _=>?_|refine zq ?_|refine zt ?_|refine zf ?_|refine zg ?_|refine za ?_|refine altF ?_|refine all fun _=>?_|refine both ?_ ?_|refine zu ?_|refine zv ?_|refine cho (fun _=>?_) fun _=>?_|refine zw ?_)
       rename_i w
       refine joinI (β := Unit) (fun _ => True) (fun _ => [.lst 36 (l.map tbF) m, I .i64 (k : Nat), S (lowS (frI l O) (l.getD i default).fst), S (toI l O), B true, .own w (M ++ [true]).length, I .i64 (i : Nat)]) (fun _ => [.row w 4 1 ((M ++ [true]).map bV) 0]) ?_ ?_
       ·by_cases hc : lt (l.getD i default).fst (frI l O) = true
        ·rw [show lowS (frI l O) (l.getD i default).fst = (l.getD i default).fst from if_pos hc]
         repeat' (with_reducible first|apply Stp.go|refine imp fun _=>?_|refine zq ?_|refine zt ?_|refine zf ?_|refine zg ?_|refine za ?_|refine altF ?_|refine all fun _=>?_|refine both ?_ ?_|refine zu ?_|refine zv ?_|refine cho (fun _=>?_) fun _=>?_|refine zw ?_)
         exact meet () trivial (Sub.refl _ _)
        ·rw [show lowS (frI l O) (l.getD i default).fst = frI l O from if_neg hc]
         repeat' (with_reducible first|apply Stp.go|refine imp fun _=>?_|refine zq ?_|refine zt ?_|refine zf ?_|refine zg ?_|refine za ?_|refine altF ?_|refine all fun _=>?_|refine both ?_ ?_|refine zu ?_|refine zv ?_|refine cho (fun _=>?_) fun _=>?_|refine zw ?_)
         exact meet () trivial (Sub.refl _ _)
       ·rintro ⟨⟩ -
        have hfl := lt_flip2 (toI l O) (l.getD i default).lst
        by_cases hc : (lt (l.getD i default).lst (toI l O) || decide ((l.getD i default).lst = toI l O)) = true
        ·rw [hc] at hfl
         have hc2 : ¬ (!(lt (l.getD i default).lst (toI l O) || decide ((l.getD i default).lst = toI l O))) = true := by rw [hc]; decide
         rw [show highS (toI l O) (l.getD i default).lst = toI l O from if_neg (by rw [hfl]; decide)] at hts
         repeat' (with_reducible first|apply Stp.go|refine imp fun _=>?_|refine zq ?_|refine zt ?_|refine zf ?_|refine zg ?_|refine za ?_|refine altF ?_|refine all fun _=>?_|refine both ?_ ?_|refine zu ?_|refine zv ?_|refine cho (fun _=>?_) fun _=>?_|refine zw ?_)
         exact again (i + 1, w) (by dsimp only; omega) (by dsimp only; omega) (by dsimp only; rw [hos, hms, hfs, hts, e5]; exact Sub.refl _ _)
        ·rw [Bool.eq_false_iff.2 hc] at hfl
         have hc2 : (!(lt (l.getD i default).lst (toI l O) || decide ((l.getD i default).lst = toI l O))) = true := by rw [Bool.eq_false_iff.2 hc]; rfl
         rw [show highS (toI l O) (l.getD i default).lst = (l.getD i default).lst from if_pos hfl] at hts
         repeat' (with_reducible first|apply Stp.go|refine imp fun _=>?_|refine zq ?_|refine zt ?_|refine zf ?_|refine zg ?_|refine za ?_|refine altF ?_|refine all fun _=>?_|refine both ?_ ?_|refine zu ?_|refine zv ?_|refine cho (fun _=>?_) fun _=>?_|refine zw ?_)
         exact again (i + 1, w) (by dsimp only; omega) (by dsimp only; omega) (by dsimp only; rw [hos, hms, hfs, hts, e5]; exact Sub.refl _ _)
     ·have hb : isB l k i = false := by rw [hib, decide_eq_false (show ¬ k = 0 by omega), decide_eq_false (show ¬ O.length = 0 by omega)]; simp
      rw [hb] at hms hos
      rw [if_neg (by decide), List.append_nil] at hos
      rw [decide_eq_true (show 0 < O.length by omega)]
      have c2 : ¬ k = 0 := by omega
      repeat' (with_reducible first|apply Stp.go|refine imp fun _=>?_|refine zq ?_|refine zt ?_|refine zf ?_|refine zg ?_|refine za ?_|refine altF ?_|refine all fun _=>?_|refine both ?_ ?_|refine zu ?_|refine zv ?_|refine cho (fun _=>?_) fun _=>?_|refine zw ?_)
      rename_i w
      exact again (i + 1, w) (by dsimp only; omega) (by dsimp only; omega) (by dsimp only; rw [hos, hms, decide_eq_true (show 0 < O.length by omega)]; exact Sub.refl _ _)
    ·have hb : isB l k i = false := by rw [hib, decide_eq_false c1]; rfl
     rw [hb] at hms hos
     rw [if_neg (by decide), List.append_nil] at hos
     repeat' (with_reducible first|apply Stp.go|refine imp fun _=>?_|refine zq ?_|refine zt ?_|refine zf ?_|refine zg ?_|refine za ?_|refine altF ?_|refine all fun _=>?_|refine both ?_ ?_|refine zu ?_|refine zv ?_|refine cho (fun _=>?_) fun _=>?_|refine zw ?_)
     rename_i w
     exact again (i + 1, w) (by dsimp only; omega) (by dsimp only; omega) (by dsimp only; rw [hos, hms]; exact Sub.refl _ _)
   ·have e : i = l.length := by omega
    subst e
    have hO : (ownK l k).length ≠ 0 := by omega
    have hfr : frI l (ownI l k l.length) = fromK l k := by rw [ownI_all]; unfold frI; rw [if_neg hO]; rfl
    have hto : toI l (ownI l k l.length) = toK l k := by rw [ownI_all]; unfold toI; rw [if_neg hO]; rfl
    rw [hfr, hto]
    have hmem : ∀ j, j < l.length → (isB l k j = true ↔ j ∈ ownK l k) := fun j hj => by
     rw [← ownI_all, mem_ownI]
     exact ⟨fun h => ⟨hj, h⟩, fun h => h.2⟩
    repeat' (with_reducible first|apply Stp.go|refine imp fun _=>?_|refine zq ?_|refine zt ?_|refine zf ?_|refine zg ?_|refine za ?_|refine altF ?_|refine all fun _=>?_|refine both ?_ ?_|refine zu ?_|refine zv ?_|refine cho (fun _=>?_) fun _=>?_|refine zw ?_)
    rename_i v88
    refine loopI (β := Nat × Value) (fun x => x.1 ≤ l.length)
     (fun x => [.lst 36 (l.map tbF) m, I .i64 (k : Nat), S (fromK l k), S (toK l k), .own v ((List.range l.length).map (isB l k)).length, .own x.2 ((List.range x.1).filter (inP l k)).length, I .i64 (x.1 : Nat)])
     (fun x => [.row x.2 InT 1 (((List.range x.1).filter (inP l k)).map itN) 0, .row v 4 1 (((List.range l.length).map (isB l k)).map bV) 0]) (fun x => l.length - x.1) (0, v88) (Nat.zero_le _) (Sub.refl _ _) ?_
    rintro ⟨i, w⟩ p1
    dsimp only at p1 ⊢
    by_cases hil : i < l.length
    ·have hs : (List.range (i + 1)).filter (inP l k) = (List.range i).filter (inP l k) ++ if inP l k i = true then [i] else [] := by
      rw [List.range_succ, List.filter_append]
      congr 1
      by_cases h : inP l k i = true
      ·rw [if_pos h, List.filter_cons_of_pos h]; rfl
      ·rw [if_neg h, List.filter_cons_of_neg h]; rfl
     have hfl : ((List.range i).filter (inP l k)).length ≤ i := Nat.le_trans (List.length_filter_le _ _) (by rw [List.length_range]; exact Nat.le_refl _)
     have hgd : ((List.range l.length).map (isB l k)).getD i default = isB l k i := by
      rw [List.getD_eq_getElem?_getD, List.getElem?_map, List.getElem?_eq_getElem (by rw [List.length_range]; exact hil), List.getElem_range]; rfl
     have hml2 : ((List.range l.length).map (isB l k)).length = l.length := by rw [List.length_map, List.length_range]
     have hin : inP l k i = (isB l k i || overP ((k : Int) + 1) (fromK l k) (toK l k) (l.getD i default)) := by
      unfold inP
      congr 1
      rw [Bool.eq_iff_iff, decide_eq_true_eq]
      exact (hmem i hil).symm
     generalize hMM : (List.range l.length).map (isB l k) = M at *
     have hlf := lt_flip2 (toK l k) (l.getD i default).fst
     cases hib : isB l k i with
     | true =>
      rw [hib, Bool.true_or] at hin
      rw [hin, if_pos rfl] at hs
      have hg2 : M.getD i default = true := by rw [hgd, hib]
      repeat' (with_reducible first|apply Stp.go|refine imp fun _=>?_|refine zq ?_|refine zt ?_|refine zf ?_|refine zg ?_|refine za ?_|refine altF ?_|refine all fun _=>?_|refine both ?_ ?_|refine zu ?_|refine zv ?_|refine cho (fun _=>?_) fun _=>?_|refine zw ?_)
      all_goals first
      | exact again (i + 1, w) (by dsimp only; omega) (by dsimp only; omega) (by dsimp only; rw [hs]; exact Sub.refl _ _)
      | (rename_i w3; exact again (i + 1, w3) (by dsimp only; omega) (by dsimp only; omega) (by dsimp only; rw [hs]; exact Sub.refl _ _))
     | false =>
      rw [hib, Bool.false_or] at hin
      have hg2 : ¬ M.getD i default = true := by rw [hgd, hib]; decide
      unfold overP onP at hin
      by_cases d1 : (l.getD i default).lev = ((k + 1 : Nat) : Int)
      ·rw [decide_eq_true (show (l.getD i default).lev = (k : Int) + 1 by rw [d1]; rfl), Bool.true_and] at hin
       by_cases d2 : (lt (l.getD i default).fst (toK l k) || decide ((l.getD i default).fst = toK l k)) = true
       ·rw [d2] at hlf
        rw [hlf, Bool.not_true, Bool.not_false, Bool.true_and] at hin
        by_cases d3 : ¬ lt (l.getD i default).lst (fromK l k) = true
        ·rw [Bool.eq_false_iff.2 d3, Bool.not_false] at hin
         rw [hin, if_pos rfl] at hs
         repeat' (with_reducible first|apply Stp.go|refine imp fun _=>?_|refine zq ?_|refine zt ?_|refine zf ?_|refine zg ?_|refine za ?_|refine altF ?_|refine all fun _=>?_|refine both ?_ ?_|refine zu ?_|refine zv ?_|refine cho (fun _=>?_) fun _=>?_|refine zw ?_)
         all_goals first
         | exact again (i + 1, w) (by dsimp only; omega) (by dsimp only; omega) (by dsimp only; rw [hs]; exact Sub.refl _ _)
         | (rename_i w3; exact again (i + 1, w3) (by dsimp only; omega) (by dsimp only; omega) (by dsimp only; rw [hs]; exact Sub.refl _ _))
        ·have d3 := Classical.not_not.1 d3
         rw [d3, Bool.not_true] at hin
         rw [hin, if_neg (by decide), List.append_nil] at hs
         repeat' (with_reducible first|apply Stp.go|refine imp fun _=>?_|refine zq ?_|refine zt ?_|refine zf ?_|refine zg ?_|refine za ?_|refine altF ?_|refine all fun _=>?_|refine both ?_ ?_|refine zu ?_|refine zv ?_|refine cho (fun _=>?_) fun _=>?_|refine zw ?_)
         all_goals first
         | exact again (i + 1, w) (by dsimp only; omega) (by dsimp only; omega) (by dsimp only; rw [hs]; exact Sub.refl _ _)
         | (rename_i w3; exact again (i + 1, w3) (by dsimp only; omega) (by dsimp only; omega) (by dsimp only; rw [hs]; exact Sub.refl _ _))
       ·rw [Bool.eq_false_iff.2 d2] at hlf
        rw [hlf, Bool.not_false, Bool.not_true, Bool.false_and] at hin
        rw [hin, if_neg (by decide), List.append_nil] at hs
        repeat' (with_reducible first|apply Stp.go|refine imp fun _=>?_|refine zq ?_|refine zt ?_|refine zf ?_|refine zg ?_|refine za ?_|refine altF ?_|refine all fun _=>?_|refine both ?_ ?_|refine zu ?_|refine zv ?_|refine cho (fun _=>?_) fun _=>?_|refine zw ?_)
        all_goals first
        | exact again (i + 1, w) (by dsimp only; omega) (by dsimp only; omega) (by dsimp only; rw [hs]; exact Sub.refl _ _)
        | (rename_i w3; exact again (i + 1, w3) (by dsimp only; omega) (by dsimp only; omega) (by dsimp only; rw [hs]; exact Sub.refl _ _))
      ·rw [decide_eq_false (show ¬ (l.getD i default).lev = (k : Int) + 1 by intro h; exact d1 (by rw [h]; rfl)), Bool.false_and] at hin
       rw [hin, if_neg (by decide), List.append_nil] at hs
       repeat' (with_reducible first|apply Stp.go|refine imp fun _=>?_|refine zq ?_|refine zt ?_|refine zf ?_|refine zg ?_|refine za ?_|refine altF ?_|refine all fun _=>?_|refine both ?_ ?_|refine zu ?_|refine zv ?_|refine cho (fun _=>?_) fun _=>?_|refine zw ?_)
       all_goals first
       | exact again (i + 1, w) (by dsimp only; omega) (by dsimp only; omega) (by dsimp only; rw [hs]; exact Sub.refl _ _)
       | (rename_i w3; exact again (i + 1, w3) (by dsimp only; omega) (by dsimp only; omega) (by dsimp only; rw [hs]; exact Sub.refl _ _))
    ·have ei : i = l.length := by omega
     subst ei
     rw [map_itN, show ((List.range l.length).filter (inP l k)) = inK l k from rfl]
     repeat' (with_reducible first|apply Stp.go|refine imp fun _=>?_|refine zq ?_|refine zt ?_|refine zf ?_|refine zg ?_|refine za ?_|refine altF ?_|refine all fun _=>?_|refine both ?_ ?_|refine zu ?_|refine zv ?_|refine cho (fun _=>?_) fun _=>?_|refine zw ?_)
     exact ⟨_, _, _, rfl, Sub.tuple (retOwn (Sub.app_nil _)), rfl, rfl⟩
  ·have hh2 : ¬ capT k < (ownP l k).length := by unfold hot at hh; exact fun h => hh (decide_eq_true h)
   repeat' (with_reducible first|apply Stp.go|refine imp fun _=>?_|refine zq ?_|refine zt ?_|refine zf ?_|refine zg ?_|refine za ?_|refine altF ?_|refine all fun _=>?_|refine both ?_ ?_|refine zu ?_|refine zv ?_|refine cho (fun _=>?_) fun _=>?_|refine zw ?_)
   refine again (k + 1) (by omega) ⟨by omega, fun j hj => ?_⟩ (Sub.app_nil _)
   by_cases e : j = k
   ·subst e; exact Bool.eq_false_iff.2 hh
   ·exact hn j (by omega)
 ·have e : k = 3 := by omega
  subst e
  unfold pickR
  rw [lvlT_none hn]
  repeat' (with_reducible first|apply Stp.go|refine imp fun _=>?_|refine zq ?_|refine zt ?_|refine zf ?_|refine zg ?_|refine za ?_|refine altF ?_|refine all fun _=>?_|refine both ?_ ?_|refine zu ?_|refine zv ?_|refine cho (fun _=>?_) fun _=>?_|refine zw ?_)
  exact ⟨_, _, _, rfl, Sub.tuple (retNil it (sz := 1) (by decide) (Sub.app_nil _)), rfl, rfl⟩
end Go.Ab

namespace Go.Ab
open Go.Proofs
def ref17_among.mark : Mark := ⟨fun t => false, fun t => false, fun t => false, fun t => Nat.beq t 15, fun t => false⟩
def ref17_among.ann : Ann := ⟨fun n => bif Nat.beq n 2 then [0, 1, 5] else [], fun n => none, fun n => none⟩
def ref17_among.sh (a0 a1 : AV) (σ : Store) (Q : AEnd → Store → Prop) : Prop :=
 aLoop (fun go vs σ =>
 At vs 0 fun s0 => At vs 1 fun s1 => At vs 2 fun s5 => Do (aBuiltin Tryz.prog .len #[23] [s0]) fun t8 =>
 Do (aBin Tryz.prog .lss 3 s5 t8) fun t9 =>
 aCond t9
 (Do (aIndexAddr .slice 1 s0 s5) fun t14 =>
 Do (loadF false 1 t14) fun t15 =>
 Do (aBin Tryz.prog .eql 3 t15 s1) fun t17 =>
 aCond t17
 (Q (.ret (.val (.bool true))) σ)
 (Do (aBin Tryz.prog .add 3 s5 (.val (.int .i64 1))) fun t11 =>
 go [s0, s1, t11] σ))
 (Q (.ret (.val (.bool false))) σ))
 [a0, a1, (.val (.int .i64 0))] σ
theorem ref17_among.eq (a0 a1 : AV) (σ : Store) (Q : AEnd → Store → Prop) : vc (semOf Tryz.prog ref17_among.mark) Tryz.f44.ntmps ref17_among.ann (bodyOf Tryz.f44) (endK [.tmp 4] Q) (argFr [a0, a1]) σ = ref17_among.sh a0 a1 σ Q := by kernel_rfl
theorem ref17_among.go {a0 a1 : AV} {σ : Store} {Q : AEnd → Store → Prop} (h : ref17_among.sh a0 a1 σ Q) : ACalls Tryz.prog 44 [a0, a1] σ Q :=
 acalls_of_eq [.tmp 4] Tryz.func44 (by kernel_rfl) (by kernel_rfl) (by kernel_rfl) (by kernel_rfl) (ref17_among.eq a0 a1 σ Q) h
def ref17_Inputs.mark : Mark := ⟨fun t => Nat.beq t 7 || Nat.beq t 11, fun t => false, fun t => false, fun t => false, fun t => false⟩
def ref17_Inputs.ann : Ann := ⟨fun n => [], fun n => none, fun n => none⟩
def ref17_Inputs.sh (a0 : AV) (σ : Store) (Q : AEnd → Store → Prop) : Prop :=
 Do (aPureC Tryz.prog 32 [a0]) fun t7 =>
 Do (aUn Tryz.prog .not t7) fun t9 =>
 aCond t9
 (Q (.ret (.tuple [(.val (.slice none 0 0)), (.val (.int .i64 0)), (.val (.bool false))])) σ)
 (Do (aPureC Tryz.prog 33 [a0]) fun t11 =>
 Do (aExt t11 0) fun t12 =>
 Do (aExt t11 1) fun t13 =>
 Do (aExt t11 2) fun t14 =>
 Q (.ret (.tuple [t12, t13, t14])) σ)
theorem ref17_Inputs.eq (a0 : AV) (σ : Store) (Q : AEnd → Store → Prop) : vc (semOf Tryz.prog ref17_Inputs.mark) Tryz.f10.ntmps ref17_Inputs.ann (bodyOf Tryz.f10) (endK [.tmp 2, .tmp 3, .tmp 4] Q) (argFr [a0]) σ = ref17_Inputs.sh a0 σ Q := by kernel_rfl
theorem ref17_Inputs.go {a0 : AV} {σ : Store} {Q : AEnd → Store → Prop} (h : ref17_Inputs.sh a0 σ Q) : ACalls Tryz.prog 10 [a0] σ Q :=
 acalls_of_eq [.tmp 2, .tmp 3, .tmp 4] Tryz.func10 (by kernel_rfl) (by kernel_rfl) (by kernel_rfl) (by kernel_rfl) (ref17_Inputs.eq a0 σ Q) h
def ref14_SameInts.mark : Mark := ⟨fun t => false, fun t => false, fun t => false, fun t => Nat.beq t 20 || Nat.beq t 24, fun t => false⟩
def ref14_SameInts.ann : Ann := ⟨fun n => bif Nat.beq n 4 then [0, 1, 5] else [], fun n => none, fun n => none⟩
def ref14_SameInts.sh (a0 a1 : AV) (σ : Store) (Q : AEnd → Store → Prop) : Prop :=
 Do (aBuiltin Tryz.prog .len #[23] [a0]) fun t7 =>
 Do (aBuiltin Tryz.prog .len #[23] [a1]) fun t9 =>
 Do (aBin Tryz.prog .neq 3 t7 t9) fun t10 =>
 aCond t10
 (Q (.ret (.val (.bool false))) σ)
 (aLoop (fun go vs σ =>
 At vs 0 fun s0 => At vs 1 fun s1 => At vs 2 fun s5 => Do (aBuiltin Tryz.prog .len #[23] [s0]) fun t13 =>
 Do (aBin Tryz.prog .lss 3 s5 t13) fun t14 =>
 aCond t14
 (Do (aIndexAddr .slice 1 s0 s5) fun t19 =>
 Do (loadF false 1 t19) fun t20 =>
 Do (aIndexAddr .slice 1 s1 s5) fun t23 =>
 Do (loadF false 1 t23) fun t24 =>
 Do (aBin Tryz.prog .neq 3 t20 t24) fun t25 =>
 aCond t25
 (Q (.ret (.val (.bool false))) σ)
 (Do (aBin Tryz.prog .add 3 s5 (.val (.int .i64 1))) fun t16 =>
 go [s0, s1, t16] σ))
 (Q (.ret (.val (.bool true))) σ))
 [a0, a1, (.val (.int .i64 0))] σ)
theorem ref14_SameInts.eq (a0 a1 : AV) (σ : Store) (Q : AEnd → Store → Prop) : vc (semOf Tryz.prog ref14_SameInts.mark) Tryz.f11.ntmps ref14_SameInts.ann (bodyOf Tryz.f11) (endK [.tmp 4] Q) (argFr [a0, a1]) σ = ref14_SameInts.sh a0 a1 σ Q := by kernel_rfl
theorem ref14_SameInts.go {a0 a1 : AV} {σ : Store} {Q : AEnd → Store → Prop} (h : ref14_SameInts.sh a0 a1 σ Q) : ACalls Tryz.prog 11 [a0, a1] σ Q :=
 acalls_of_eq [.tmp 4] Tryz.func11 (by kernel_rfl) (by kernel_rfl) (by kernel_rfl) (by kernel_rfl) (ref14_SameInts.eq a0 a1 σ Q) h
def law17_sameRows.mark : Mark := ⟨fun t => Nat.beq t 26, fun t => false, fun t => false, fun t => Nat.beq t 21 || Nat.beq t 25, fun t => false⟩
def law17_sameRows.ann : Ann := ⟨fun n => bif Nat.beq n 4 then [0, 1, 5] else [], fun n => none, fun n => none⟩
def law17_sameRows.sh (a0 a1 : AV) (σ : Store) (Q : AEnd → Store → Prop) : Prop :=
 Do (aBuiltin Tryz.prog .len #[22] [a0]) fun t8 =>
 Do (aBuiltin Tryz.prog .len #[22] [a1]) fun t10 =>
 Do (aBin Tryz.prog .neq 3 t8 t10) fun t11 =>
 aCond t11
 (Q (.ret (.val (.bool false))) σ)
 (aLoop (fun go vs σ =>
 At vs 0 fun s0 => At vs 1 fun s1 => At vs 2 fun s5 => Do (aBuiltin Tryz.prog .len #[22] [s0]) fun t14 =>
 Do (aBin Tryz.prog .lss 3 s5 t14) fun t15 =>
 aCond t15
 (Do (aIndexAddr .slice 1 s0 s5) fun t20 =>
 Do (loadF false 1 t20) fun t21 =>
 Do (aIndexAddr .slice 1 s1 s5) fun t24 =>
 Do (loadF false 1 t24) fun t25 =>
 Do (aPureC Tryz.prog 24 [t21, t25]) fun t26 =>
 Do (aUn Tryz.prog .not t26) fun t28 =>
 aCond t28
 (Q (.ret (.val (.bool false))) σ)
 (Do (aBin Tryz.prog .add 3 s5 (.val (.int .i64 1))) fun t17 =>
 go [s0, s1, t17] σ))
 (Q (.ret (.val (.bool true))) σ))
 [a0, a1, (.val (.int .i64 0))] σ)
theorem law17_sameRows.eq (a0 a1 : AV) (σ : Store) (Q : AEnd → Store → Prop) : vc (semOf Tryz.prog law17_sameRows.mark) Tryz.f16.ntmps law17_sameRows.ann (bodyOf Tryz.f16) (endK [.tmp 4] Q) (argFr [a0, a1]) σ = law17_sameRows.sh a0 a1 σ Q := by kernel_rfl
theorem law17_sameRows.go {a0 a1 : AV} {σ : Store} {Q : AEnd → Store → Prop} (h : law17_sameRows.sh a0 a1 σ Q) : ACalls Tryz.prog 16 [a0, a1] σ Q :=
 acalls_of_eq [.tmp 4] Tryz.func16 (by kernel_rfl) (by kernel_rfl) (by kernel_rfl) (by kernel_rfl) (law17_sameRows.eq a0 a1 σ Q) h
theorem among_ok (J : List Int) (m : SM) (x : Int) (hl : J.length ≤ 9223372036854775807) : aPure Tryz.prog 44 [.lst 1 (J.map it) m, I .i64 x] (B (decide (x ∈ J))) := by
 refine ACalls.fin (ref17_among.go ?_)
 unfold ref17_among.sh
 repeat' (with_reducible first|apply Stp.go|refine imp fun _=>?_|refine zq ?_|refine zt ?_|refine zf ?_|refine zg ?_|refine za ?_|refine altF ?_|refine all fun _=>?_|refine both ?_ ?_|refine zu ?_|refine zv ?_|refine cho (fun _=>?_) fun _=>?_|refine zw ?_)
 refine loopI (β := Nat) (fun i => i ≤ J.length ∧ x ∉ J.take i) (fun i => [.lst 1 (J.map it) m, I .i64 x, I .i64 (i : Nat)]) (fun _ => []) (fun i => J.length - i) 0 ⟨Nat.zero_le _, by simp⟩ (Sub.refl _ _) ?_
 rintro i ⟨hi, hn⟩
 by_cases hil : i < J.length
 ·have hs := take_succ_d hil
  by_cases he : J.getD i default = x
  ·have hm : x ∈ J := by rw [← he]; exact getD_memT hil
   rw [decide_eq_true hm]
   repeat' (with_reducible first|apply Stp.go|refine imp fun _=>?_|refine zq ?_|refine zt ?_|refine zf ?_|refine zg ?_|refine za ?_|refine altF ?_|refine all fun _=>?_|refine both ?_ ?_|refine zu ?_|refine zv ?_|refine cho (fun _=>?_) fun _=>?_|refine zw ?_)
   exact ⟨_, _, _, rfl, Sub.refl _ _, rfl, rfl⟩
  ·repeat' (with_reducible first|apply Stp.go|refine imp fun _=>?_|refine zq ?_|refine zt ?_|refine zf ?_|refine zg ?_|refine za ?_|refine altF ?_|refine all fun _=>?_|refine both ?_ ?_|refine zu ?_|refine zv ?_|refine cho (fun _=>?_) fun _=>?_|refine zw ?_)
   refine again (i + 1) (by omega) ⟨by omega, fun h => ?_⟩ (Sub.refl _ _)
   rw [hs] at h
   rcases List.mem_append.1 h with h | h
   ·exact hn h
   ·exact he (List.mem_singleton.1 h).symm
 ·have e : i = J.length := by omega
  subst e
  rw [List.take_length] at hn
  rw [decide_eq_false hn]
  repeat' (with_reducible first|apply Stp.go|refine imp fun _=>?_|refine zq ?_|refine zt ?_|refine zf ?_|refine zg ?_|refine za ?_|refine altF ?_|refine all fun _=>?_|refine both ?_ ?_|refine zu ?_|refine zv ?_|refine cho (fun _=>?_) fun _=>?_|refine zw ?_)
  exact ⟨_, _, _, rfl, Sub.refl _ _, rfl, rfl⟩
instance {a : AV} {J : List Int} {m : SM} {x : Int} [h : IsL a it 1 J m] : PC Tryz.prog 44 [a, .val (.int .i64 x)] (J.length ≤ 9223372036854775807) (B (decide (x ∈ J))) := ⟨fun hl => ⟨[.lst 1 (J.map it) m, I .i64 x], ⟨h.sub, SubVs.refl _⟩, among_ok J m x hl⟩⟩
theorem rInputs_ok (l : List TabR) (m : SM) (hl : l.length ≤ 1000000) : aPure Tryz.prog 10 [.lst 36 (l.map tbF) m] (inputsR l) := by
 refine ACalls.fin (ref17_Inputs.go ?_)
 unfold ref17_Inputs.sh inputsR
 by_cases hr : rightT l = true
 ·rw [if_pos hr]
  have hp := rPick_ok l m hl
  unfold pickR at hp ⊢
  by_cases hk : lvlT l < 3
  ·rw [if_pos hk] at hp ⊢
   have iP : PC Tryz.prog 33 [.lst 36 (l.map tbF) m] True _ := ⟨fun _ => PC.of hp⟩
   repeat' (with_reducible first|apply Stp.go|refine imp fun _=>?_|refine zq ?_|refine zt ?_|refine zf ?_|refine zg ?_|refine za ?_|refine altF ?_|refine all fun _=>?_|refine both ?_ ?_|refine zu ?_|refine zv ?_|refine cho (fun _=>?_) fun _=>?_|refine zw ?_)
   all_goals exact ⟨_, _, _, rfl, Sub.refl _ _, rfl, rfl⟩
  ·rw [if_neg hk] at hp ⊢
   have iP : PC Tryz.prog 33 [.lst 36 (l.map tbF) m] True _ := ⟨fun _ => PC.of hp⟩
   repeat' (with_reducible first|apply Stp.go|refine imp fun _=>?_|refine zq ?_|refine zt ?_|refine zf ?_|refine zg ?_|refine za ?_|refine altF ?_|refine all fun _=>?_|refine both ?_ ?_|refine zu ?_|refine zv ?_|refine cho (fun _=>?_) fun _=>?_|refine zw ?_)
   all_goals exact ⟨_, _, _, rfl, Sub.refl _ _, rfl, rfl⟩
 ·rw [if_neg hr]
  repeat' (with_reducible first|apply Stp.go|refine imp fun _=>?_|refine zq ?_|refine zt ?_|refine zf ?_|refine zg ?_|refine za ?_|refine altF ?_|refine all fun _=>?_|refine both ?_ ?_|refine zu ?_|refine zv ?_|refine cho (fun _=>?_) fun _=>?_|refine zw ?_)
  all_goals exact ⟨_, _, _, rfl, Sub.tuple (retNil it (sz := 1) (by decide) (Sub.app_nil _)), rfl, rfl⟩
theorem list_ne {α : Type} [Inhabited α] {a b : List α} {i : Nat} (h : i < a.length) (hb : i < b.length) (hn : ¬ a.getD i default = b.getD i default) : a ≠ b := fun e => hn (by rw [e])
theorem list_eq {α : Type} [Inhabited α] {a b : List α} (hl : a.length = b.length) (h : ∀ i, i < a.length → a.getD i default = b.getD i default) : a = b := by
 apply List.ext_getElem hl
 intro i h1 h2
 have := h i h1
 rwa [List.getD_eq_getElem?_getD, List.getD_eq_getElem?_getD, List.getElem?_eq_getElem h1, List.getElem?_eq_getElem h2] at this
theorem SameInts_ok (a b : List Int) (m m' : SM) (ha : a.length ≤ 1000000) : aPure Tryz.prog 11 [.lst 1 (a.map it) m, .lst 1 (b.map it) m'] (B (decide (a = b))) := by
 refine ACalls.fin (ref14_SameInts.go ?_)
 unfold ref14_SameInts.sh
 by_cases hn : a.length = b.length
 ·repeat' (with_reducible first|apply Stp.go|refine imp fun _=>?_|refine zq ?_|refine zt ?_|refine zf ?_|refine zg ?_|refine za ?_|refine altF ?_|refine all fun _=>?_|refine both ?_ ?_|refine zu ?_|refine zv ?_|refine cho (fun _=>?_) fun _=>?_|refine zw ?_)
  refine loopI (β := Nat) (fun i => i ≤ a.length ∧ ∀ j, j < i → a.getD j default = b.getD j default) (fun i => [.lst 1 (a.map it) m, .lst 1 (b.map it) m', I .i64 (i : Nat)]) (fun _ => []) (fun i => a.length - i) 0 ⟨Nat.zero_le _, fun j h => absurd h (Nat.not_lt_zero _)⟩ (Sub.refl _ _) ?_
  rintro i ⟨hi, he⟩
  by_cases hil : i < a.length
  ·by_cases hx : a.getD i default = b.getD i default
   ·repeat' (with_reducible first|apply Stp.go|refine imp fun _=>?_|refine zq ?_|refine zt ?_|refine zf ?_|refine zg ?_|refine za ?_|refine altF ?_|refine all fun _=>?_|refine both ?_ ?_|refine zu ?_|refine zv ?_|refine cho (fun _=>?_) fun _=>?_|refine zw ?_)
    refine again (i + 1) (by omega) ⟨by omega, fun j hj => ?_⟩ (Sub.refl _ _)
    by_cases ej : j = i
    ·subst ej; exact hx
    ·exact he j (by omega)
   ·rw [decide_eq_false (list_ne hil (by omega) hx)]
    repeat' (with_reducible first|apply Stp.go|refine imp fun _=>?_|refine zq ?_|refine zt ?_|refine zf ?_|refine zg ?_|refine za ?_|refine altF ?_|refine all fun _=>?_|refine both ?_ ?_|refine zu ?_|refine zv ?_|refine cho (fun _=>?_) fun _=>?_|refine zw ?_)
    exact ⟨_, _, _, rfl, Sub.refl _ _, rfl, rfl⟩
  ·have e : i = a.length := by omega
   subst e
   rw [decide_eq_true (list_eq hn he)]
   repeat' (with_reducible first|apply Stp.go|refine imp fun _=>?_|refine zq ?_|refine zt ?_|refine zf ?_|refine zg ?_|refine za ?_|refine altF ?_|refine all fun _=>?_|refine both ?_ ?_|refine zu ?_|refine zv ?_|refine cho (fun _=>?_) fun _=>?_|refine zw ?_)
   exact ⟨_, _, _, rfl, Sub.refl _ _, rfl, rfl⟩
 ·rw [decide_eq_false (fun e => hn (by rw [e]))]
  repeat' (with_reducible first|apply Stp.go|refine imp fun _=>?_|refine zq ?_|refine zt ?_|refine zf ?_|refine zg ?_|refine za ?_|refine altF ?_|refine all fun _=>?_|refine both ?_ ?_|refine zu ?_|refine zv ?_|refine cho (fun _=>?_) fun _=>?_|refine zw ?_)
  exact ⟨_, _, _, rfl, Sub.refl _ _, rfl, rfl⟩
instance {x y : AV} {a b : List Int} {m m' : SM} [h : IsL x it 1 a m] [h' : IsL y it 1 b m'] : PC Tryz.prog 11 [x, y] (a.length ≤ 1000000) (B (decide (a = b))) := ⟨fun hl => ⟨[.lst 1 (a.map it) m, .lst 1 (b.map it) m'], ⟨h.sub, h'.sub, trivial⟩, SameInts_ok a b m m' hl⟩⟩
theorem sameRows_ok (a b : List (List En)) (m m' : SM) (ha : a.length ≤ 1000000) (hl : ∀ r ∈ a, r.length ≤ 1000000) : aPure Tryz.prog 16 [.lst 1 (a.map enL) m, .lst 1 (b.map enL) m'] (B (decide (a = b))) := by
 refine ACalls.fin (law17_sameRows.go ?_)
 unfold law17_sameRows.sh
 by_cases hn : a.length = b.length
 ·repeat' (with_reducible first|apply Stp.go|refine imp fun _=>?_|refine zq ?_|refine zt ?_|refine zf ?_|refine zg ?_|refine za ?_|refine altF ?_|refine all fun _=>?_|refine both ?_ ?_|refine zu ?_|refine zv ?_|refine cho (fun _=>?_) fun _=>?_|refine zw ?_)
  refine loopI (β := Nat) (fun i => i ≤ a.length ∧ ∀ j, j < i → a.getD j default = b.getD j default) (fun i => [.lst 1 (a.map enL) m, .lst 1 (b.map enL) m', I .i64 (i : Nat)]) (fun _ => []) (fun i => a.length - i) 0 ⟨Nat.zero_le _, fun j h => absurd h (Nat.not_lt_zero _)⟩ (Sub.refl _ _) ?_
  rintro i ⟨hi, he⟩
  by_cases hil : i < a.length
  ·have hrl := hl _ (getD_memT hil)
   by_cases hx : a.getD i default = b.getD i default
   ·repeat' (with_reducible first|apply Stp.go|refine imp fun _=>?_|refine zq ?_|refine zt ?_|refine zf ?_|refine zg ?_|refine za ?_|refine altF ?_|refine all fun _=>?_|refine both ?_ ?_|refine zu ?_|refine zv ?_|refine cho (fun _=>?_) fun _=>?_|refine zw ?_)
    refine again (i + 1) (by omega) ⟨by omega, fun j hj => ?_⟩ (Sub.refl _ _)
    by_cases ej : j = i
    ·subst ej; exact hx
    ·exact he j (by omega)
   ·rw [decide_eq_false (list_ne hil (by omega) hx)]
    repeat' (with_reducible first|apply Stp.go|refine imp fun _=>?_|refine zq ?_|refine zt ?_|refine zf ?_|refine zg ?_|refine za ?_|refine altF ?_|refine all fun _=>?_|refine both ?_ ?_|refine zu ?_|refine zv ?_|refine cho (fun _=>?_) fun _=>?_|refine zw ?_)
    exact ⟨_, _, _, rfl, Sub.refl _ _, rfl, rfl⟩
  ·have e : i = a.length := by omega
   subst e
   rw [decide_eq_true (list_eq hn he)]
   repeat' (with_reducible first|apply Stp.go|refine imp fun _=>?_|refine zq ?_|refine zt ?_|refine zf ?_|refine zg ?_|refine za ?_|refine altF ?_|refine all fun _=>?_|refine both ?_ ?_|refine zu ?_|refine zv ?_|refine cho (fun _=>?_) fun _=>?_|refine zw ?_)
   exact ⟨_, _, _, rfl, Sub.refl _ _, rfl, rfl⟩
 ·rw [decide_eq_false (fun e => hn (by rw [e]))]
  repeat' (with_reducible first|apply Stp.go|refine imp fun _=>?_|refine zq ?_|refine zt ?_|refine zf ?_|refine zg ?_|refine za ?_|refine altF ?_|refine all fun _=>?_|refine both ?_ ?_|refine zu ?_|refine zv ?_|refine cho (fun _=>?_) fun _=>?_|refine zw ?_)
  exact ⟨_, _, _, rfl, Sub.refl _ _, rfl, rfl⟩
instance {x y : AV} {a b : List (List En)} {m m' : SM} [h : IsL x enL 1 a m] [h' : IsL y enL 1 b m'] : PC Tryz.prog 16 [x, y] (a.length ≤ 1000000 ∧ ∀ r ∈ a, r.length ≤ 1000000) (B (decide (a = b))) := ⟨fun hl => ⟨[.lst 1 (a.map enL) m, .lst 1 (b.map enL) m'], ⟨h.sub, h'.sub, trivial⟩, sameRows_ok a b m m' hl.1 hl.2⟩⟩
def ref17_Place.mark : Mark := ⟨fun t => Nat.beq t 20, fun t => Nat.beq t 82, fun t => false, fun t => false, fun t => false⟩
def ref17_Place.ann : Ann := ⟨fun n => bif Nat.beq n 3 then [0, 1, 2, 7, 8] else bif Nat.beq n 9 then [2, 7, 10] else bif Nat.beq n 12 then [2, 7, 10, 11] else [], fun n => none, fun n => bif Nat.beq n 14 then some [2, 7, 10] else none⟩
def ref17_Place.sh (a0 a1 a2 : AV) (σ : Store) (Q : AEnd → Store → Prop) : Prop :=
 aLoop (fun go vs σ =>
 At vs 0 fun s0 => At vs 1 fun s1 => At vs 2 fun s2 => At vs 3 fun s7 => At vs 4 fun s8 => Do (aBuiltin Tryz.prog .len #[24] [s0]) fun t14 =>
 Do (aBin Tryz.prog .lss 3 s8 t14) fun t15 =>
 aCond t15
 (Do (aPureC Tryz.prog 44 [s1, s8]) fun t20 =>
 Do (aUn Tryz.prog .not t20) fun t22 =>
 aCond t22
 (Do (aIndexAddr .slice 36 s0 s8) fun t26 =>
 Do (loadA true 36 t26 σ) fun t27 =>
 Do (aSlLit (mkE [.val (.int .i64 0), .val (.int .i64 0), .val (.int .u8 0), .val (.int .u8 0), .val (.int .u8 0), .val (.int .u8 0), .val (.int .u8 0), .val (.int .u8 0), .val (.int .u8 0), .val (.int .u8 0), .val (.int .u8 0), .val (.int .u8 0), .val (.int .u8 0), .val (.int .u8 0), .val (.int .u8 0), .val (.int .u8 0), .val (.int .u8 0), .val (.int .u8 0), .val (.int .u8 0), .val (.int .u8 0), .val (.int .u8 0), .val (.int .u8 0), .val (.int .u8 0), .val (.int .u8 0), .val (.int .u8 0), .val (.int .u8 0), .val (.int .u8 0), .val (.int .u8 0), .val (.int .u8 0), .val (.int .u8 0), .val (.int .u8 0), .val (.int .u8 0), .val (.int .u8 0), .val (.int .u8 0), .val (.string ⟨#[]⟩), .val (.string ⟨#[]⟩)]) 36 1 [(0, t27)]) fun t28 =>
 aAppend 58 36 80 s7 t28 σ (subK fun t29 σ_1 =>
 Do (aBin Tryz.prog .add 3 s8 (.val (.int .i64 1))) fun t17 =>
 go [s0, s1, s2, t29, t17] σ_1))
 (Do (aBin Tryz.prog .add 3 s8 (.val (.int .i64 1))) fun t17_1 =>
 go [s0, s1, s2, s7, t17_1] σ))
 (aLoop (fun go_1 vs_1 σ_2 =>
 At vs_1 0 fun s2_1 => At vs_1 1 fun s7_1 => At vs_1 2 fun s10 => Do (aBuiltin Tryz.prog .len #[24] [s2_1]) fun t32 =>
 Do (aBin Tryz.prog .lss 3 s10 t32) fun t33 =>
 aCond t33
 (aLoop (fun go_2 vs_2 σ_3 =>
 At vs_2 0 fun s2_2 => At vs_2 1 fun s7_2 => At vs_2 2 fun s10_1 => At vs_2 3 fun s11 => Do (aBuiltin Tryz.prog .len #[24] [s7_2]) fun t38 =>
 Do (aBin Tryz.prog .lss 3 s11 t38) fun t39 =>
 Do (aGuard t39 true (aIs s7_2)) fun t41 =>
 Do (aGuard t39 true (aIs s11)) fun t42 =>
 Do (aGuard t39 true (aIndexAddr .slice 36 t41 t42)) fun t43 =>
 Do (aGuard t39 true (aFieldAddr 0 1 t43)) fun t44 =>
 Do (aGuard t39 true (loadA false 1 t44 σ_3)) fun t45 =>
 Do (aGuard t39 true (aIs s2_2)) fun t46 =>
 Do (aGuard t39 true (aIs s10_1)) fun t47 =>
 Do (aGuard t39 true (aIndexAddr .slice 36 t46 t47)) fun t48 =>
 Do (aGuard t39 true (aFieldAddr 0 1 t48)) fun t49 =>
 Do (aGuard t39 true (loadA false 1 t49 σ_3)) fun t50 =>
 Do (aGuard t39 true (aBin Tryz.prog .gtr 3 t45 t50)) fun t51 =>
 Do (aGuard t39 true (aIs t51)) fun t52 =>
 Do (aGuard t52 false (aIs s7_2)) fun t53 =>
 Do (aGuard t52 false (aIs s11)) fun t54 =>
 Do (aGuard t52 false (aIndexAddr .slice 36 t53 t54)) fun t55 =>
 Do (aGuard t52 false (aFieldAddr 0 1 t55)) fun t56 =>
 Do (aGuard t52 false (loadA false 1 t56 σ_3)) fun t57 =>
 Do (aGuard t52 false (aIs s2_2)) fun t58 =>
 Do (aGuard t52 false (aIs s10_1)) fun t59 =>
 Do (aGuard t52 false (aIndexAddr .slice 36 t58 t59)) fun t60 =>
 Do (aGuard t52 false (aFieldAddr 0 1 t60)) fun t61 =>
 Do (aGuard t52 false (loadA false 1 t61 σ_3)) fun t62 =>
 Do (aGuard t52 false (aBin Tryz.prog .eql 3 t57 t62)) fun t63 =>
 Do (aGuard t52 false (aIs t63)) fun t64 =>
 Do (aGuard t64 true (aIs s7_2)) fun t65 =>
 Do (aGuard t64 true (aIs s11)) fun t66 =>
 Do (aGuard t64 true (aIndexAddr .slice 36 t65 t66)) fun t67 =>
 Do (aGuard t64 true (aFieldAddr 34 1 t67)) fun t68 =>
 Do (aGuard t64 true (loadA false 1 t68 σ_3)) fun t69 =>
 Do (aGuard t64 true (aIs s2_2)) fun t70 =>
 Do (aGuard t64 true (aIs s10_1)) fun t71 =>
 Do (aGuard t64 true (aIndexAddr .slice 36 t70 t71)) fun t72 =>
 Do (aGuard t64 true (aFieldAddr 34 1 t72)) fun t73 =>
 Do (aGuard t64 true (loadA false 1 t73 σ_3)) fun t74 =>
 Do (aGuard t64 true (aBin Tryz.prog .geq 9 t69 t74)) fun t75 =>
 Do (aGuard t52 false (aPick t64 t75 (.val (.bool false)))) fun t76 =>
 Do (aGuard t39 true (aPick t52 (.val (.bool true)) t76)) fun t77 =>
 Do (aGuard t39 true (aUn Tryz.prog .not t77)) fun t78 =>
 Do (aPick t39 t78 (.val (.bool false))) fun t79 =>
 aCond t79
 (Do (aBin Tryz.prog .add 3 s11 (.val (.int .i64 1))) fun t81 =>
 go_2 [s2_2, s7_2, s10_1, t81] σ_3)
 (aJoin (fun j =>
 Do (aSlice .slice 36 s7_2 none (some s11) none) fun t85 =>
 Do (aIndexAddr .slice 36 s2_2 s10_1) fun t89 =>
 Do (aSlice .slice 36 s7_2 (some s11) none none) fun t95 =>
 Both (aRowL 58 (mkE [.val (.int .i64 0), .val (.int .i64 0), .val (.int .u8 0), .val (.int .u8 0), .val (.int .u8 0), .val (.int .u8 0), .val (.int .u8 0), .val (.int .u8 0), .val (.int .u8 0), .val (.int .u8 0), .val (.int .u8 0), .val (.int .u8 0), .val (.int .u8 0), .val (.int .u8 0), .val (.int .u8 0), .val (.int .u8 0), .val (.int .u8 0), .val (.int .u8 0), .val (.int .u8 0), .val (.int .u8 0), .val (.int .u8 0), .val (.int .u8 0), .val (.int .u8 0), .val (.int .u8 0), .val (.int .u8 0), .val (.int .u8 0), .val (.int .u8 0), .val (.int .u8 0), .val (.int .u8 0), .val (.int .u8 0), .val (.int .u8 0), .val (.int .u8 0), .val (.int .u8 0), .val (.int .u8 0), .val (.string ⟨#[]⟩), .val (.string ⟨#[]⟩)]) 36 0 [] σ_3 fun t82 σ_5 =>
 Both (aAppend 58 36 80 t82 t85 σ_5 (subK fun t86 σ_6 =>
 Do (loadA true 36 t89 σ_6) fun t90 =>
 Do (aSlLit (mkE [.val (.int .i64 0), .val (.int .i64 0), .val (.int .u8 0), .val (.int .u8 0), .val (.int .u8 0), .val (.int .u8 0), .val (.int .u8 0), .val (.int .u8 0), .val (.int .u8 0), .val (.int .u8 0), .val (.int .u8 0), .val (.int .u8 0), .val (.int .u8 0), .val (.int .u8 0), .val (.int .u8 0), .val (.int .u8 0), .val (.int .u8 0), .val (.int .u8 0), .val (.int .u8 0), .val (.int .u8 0), .val (.int .u8 0), .val (.int .u8 0), .val (.int .u8 0), .val (.int .u8 0), .val (.int .u8 0), .val (.int .u8 0), .val (.int .u8 0), .val (.int .u8 0), .val (.int .u8 0), .val (.int .u8 0), .val (.int .u8 0), .val (.int .u8 0), .val (.int .u8 0), .val (.int .u8 0), .val (.string ⟨#[]⟩), .val (.string ⟨#[]⟩)]) 36 1 [(0, t90)]) fun t91 =>
 aAppend 58 36 80 t86 t91 σ_6 (subK fun t92 σ_7 =>
 aAppend 58 36 80 t92 t95 σ_7 (subK fun t96 σ_8 =>
 j [s2_2, t96, s10_1] σ_8)))) (Do (loadA true 36 t89 σ_5) fun t90_1 =>
 Do (aSlLit (mkE [.val (.int .i64 0), .val (.int .i64 0), .val (.int .u8 0), .val (.int .u8 0), .val (.int .u8 0), .val (.int .u8 0), .val (.int .u8 0), .val (.int .u8 0), .val (.int .u8 0), .val (.int .u8 0), .val (.int .u8 0), .val (.int .u8 0), .val (.int .u8 0), .val (.int .u8 0), .val (.int .u8 0), .val (.int .u8 0), .val (.int .u8 0), .val (.int .u8 0), .val (.int .u8 0), .val (.int .u8 0), .val (.int .u8 0), .val (.int .u8 0), .val (.int .u8 0), .val (.int .u8 0), .val (.int .u8 0), .val (.int .u8 0), .val (.int .u8 0), .val (.int .u8 0), .val (.int .u8 0), .val (.int .u8 0), .val (.int .u8 0), .val (.int .u8 0), .val (.int .u8 0), .val (.int .u8 0), .val (.string ⟨#[]⟩), .val (.string ⟨#[]⟩)]) 36 1 [(0, t90_1)]) fun t91_1 =>
 aAppend 58 36 80 t82 t85 σ_5 (subK fun t86_1 σ_9 =>
 aAppend 58 36 80 t86_1 t91_1 σ_9 (subK fun t92_1 σ_10 =>
 aAppend 58 36 80 t92_1 t95 σ_10 (subK fun t96_1 σ_11 =>
 j [s2_2, t96_1, s10_1] σ_11))))) (Do (loadA true 36 t89 σ_3) fun t90_2 =>
 Do (aSlLit (mkE [.val (.int .i64 0), .val (.int .i64 0), .val (.int .u8 0), .val (.int .u8 0), .val (.int .u8 0), .val (.int .u8 0), .val (.int .u8 0), .val (.int .u8 0), .val (.int .u8 0), .val (.int .u8 0), .val (.int .u8 0), .val (.int .u8 0), .val (.int .u8 0), .val (.int .u8 0), .val (.int .u8 0), .val (.int .u8 0), .val (.int .u8 0), .val (.int .u8 0), .val (.int .u8 0), .val (.int .u8 0), .val (.int .u8 0), .val (.int .u8 0), .val (.int .u8 0), .val (.int .u8 0), .val (.int .u8 0), .val (.int .u8 0), .val (.int .u8 0), .val (.int .u8 0), .val (.int .u8 0), .val (.int .u8 0), .val (.int .u8 0), .val (.int .u8 0), .val (.int .u8 0), .val (.int .u8 0), .val (.string ⟨#[]⟩), .val (.string ⟨#[]⟩)]) 36 1 [(0, t90_2)]) fun t91_2 =>
 aRowL 58 (mkE [.val (.int .i64 0), .val (.int .i64 0), .val (.int .u8 0), .val (.int .u8 0), .val (.int .u8 0), .val (.int .u8 0), .val (.int .u8 0), .val (.int .u8 0), .val (.int .u8 0), .val (.int .u8 0), .val (.int .u8 0), .val (.int .u8 0), .val (.int .u8 0), .val (.int .u8 0), .val (.int .u8 0), .val (.int .u8 0), .val (.int .u8 0), .val (.int .u8 0), .val (.int .u8 0), .val (.int .u8 0), .val (.int .u8 0), .val (.int .u8 0), .val (.int .u8 0), .val (.int .u8 0), .val (.int .u8 0), .val (.int .u8 0), .val (.int .u8 0), .val (.int .u8 0), .val (.int .u8 0), .val (.int .u8 0), .val (.int .u8 0), .val (.int .u8 0), .val (.int .u8 0), .val (.int .u8 0), .val (.string ⟨#[]⟩), .val (.string ⟨#[]⟩)]) 36 0 [] σ_3 fun t82_1 σ_12 =>
 aAppend 58 36 80 t82_1 t85 σ_12 (subK fun t86_2 σ_13 =>
 aAppend 58 36 80 t86_2 t91_2 σ_13 (subK fun t92_2 σ_14 =>
 aAppend 58 36 80 t92_2 t95 σ_14 (subK fun t96_2 σ_15 =>
 j [s2_2, t96_2, s10_1] σ_15))))) fun vs_3 σ_4 =>
 At vs_3 0 fun s2_3 => At vs_3 1 fun s7_3 => At vs_3 2 fun s10_2 => Do (aBin Tryz.prog .add 3 s10_2 (.val (.int .i64 1))) fun t35 =>
 go_1 [s2_3, s7_3, t35] σ_4))
 [s2_1, s7_1, s10, (.val (.int .i64 0))] σ_2)
 (Q (.ret s7_1) σ_2))
 [s2, s7, (.val (.int .i64 0))] σ))
 [a0, a1, a2, (.val (.slice none 0 0)), (.val (.int .i64 0))] σ
theorem ref17_Place.eq (a0 a1 a2 : AV) (σ : Store) (Q : AEnd → Store → Prop) : vc (semOf Tryz.prog ref17_Place.mark) Tryz.f18.ntmps ref17_Place.ann (bodyOf Tryz.f18) (endK [.tmp 6] Q) (argFr [a0, a1, a2]) σ = ref17_Place.sh a0 a1 a2 σ Q := by kernel_rfl
theorem ref17_Place.go {a0 a1 a2 : AV} {σ : Store} {Q : AEnd → Store → Prop} (h : ref17_Place.sh a0 a1 a2 σ Q) : ACalls Tryz.prog 18 [a0, a1, a2] σ Q :=
 acalls_of_eq [.tmp 6] Tryz.func18 (by kernel_rfl) (by kernel_rfl) (by kernel_rfl) (by kernel_rfl) (ref17_Place.eq a0 a1 a2 σ Q) h
theorem rPlace_ok (l : List TabR) (J : List Int) (parts : List TabR) (m m' m'' : SM) (hl : l.length ≤ 100000) (hi : J.length ≤ 100000) (hp : parts.length ≤ 100000) : aPure Tryz.prog 18 [.lst 36 (l.map tbF) m, .lst 1 (J.map it) m', .lst 36 (parts.map tbF) m''] (.lst 36 ((placeT l J parts).map tbF) .ro) := by
 refine ACalls.fin (ref17_Place.go ?_)
 unfold ref17_Place.sh
 repeat' (with_reducible first|apply Stp.go|refine imp fun _=>?_|refine zq ?_|refine zt ?_|refine zf ?_|refine zg ?_|refine za ?_|refine altF ?_|refine all fun _=>?_|refine both ?_ ?_|refine zu ?_|refine zv ?_|refine cho (fun _=>?_) fun _=>?_|refine zw ?_)
 refine loopI (β := Nat × Value) (fun x => x.1 ≤ l.length) (fun x => [.lst 36 (l.map tbF) m, .lst 1 (J.map it) m', .lst 36 (parts.map tbF) m'', .own x.2 (stayT l J x.1).length, I .i64 (x.1 : Nat)]) (fun x => [.row x.2 TbE 36 ((stayT l J x.1).map tbF) 0]) (fun x => l.length - x.1) (0, .slice none 0 0) (Nat.zero_le _) (Sub.nil_own TbE (sz := 36) (by decide) _ [_, _, _] [_]) ?_
 rintro ⟨i, v⟩ h1
 dsimp only at h1 ⊢
 have hsl := stayT_len l J i
 by_cases hlt : i < l.length
 ·have hs := stayT_succ l J i
  by_cases hc : (i : Int) ∈ J
  ·rw [if_pos hc, List.append_nil] at hs
   repeat' (with_reducible first|apply Stp.go|refine imp fun _=>?_|refine zq ?_|refine zt ?_|refine zf ?_|refine zg ?_|refine za ?_|refine altF ?_|refine all fun _=>?_|refine both ?_ ?_|refine zu ?_|refine zv ?_|refine cho (fun _=>?_) fun _=>?_|refine zw ?_)
   exact again (i + 1, v) (by dsimp only; omega) (by dsimp only; omega) (by dsimp only; rw [hs]; exact Sub.refl _ _)
  ·rw [if_neg hc] at hs
   repeat' (with_reducible first|apply Stp.go|refine imp fun _=>?_|refine zq ?_|refine zt ?_|refine zf ?_|refine zg ?_|refine za ?_|refine altF ?_|refine all fun _=>?_|refine both ?_ ?_|refine zu ?_|refine zv ?_|refine cho (fun _=>?_) fun _=>?_|refine zw ?_)
   rename_i w
   exact again (i + 1, w) (by dsimp only; omega) (by dsimp only; omega) (by dsimp only; rw [hs]; exact Sub.refl _ _)
 ·have e : i = l.length := by omega
  subst e
  repeat' (with_reducible first|apply Stp.go|refine imp fun _=>?_|refine zq ?_|refine zt ?_|refine zf ?_|refine zg ?_|refine za ?_|refine altF ?_|refine all fun _=>?_|refine both ?_ ?_|refine zu ?_|refine zv ?_|refine cho (fun _=>?_) fun _=>?_|refine zw ?_)
  have hfl := foldl_ins_len
  refine loopI (β := Nat × Value) (fun x => x.1 ≤ parts.length) (fun x => [.lst 36 (parts.map tbF) m'', .own x.2 ((parts.take x.1).foldl insT (stayT l J l.length)).length, I .i64 (x.1 : Nat)]) (fun x => [.row x.2 TbE 36 (((parts.take x.1).foldl insT (stayT l J l.length)).map tbF) 0]) (fun x => parts.length - x.1) (0, v) (Nat.zero_le _) (Sub.refl _ _) ?_
  rintro ⟨j, w⟩ h2
  dsimp only at h2 ⊢
  have hol : ((parts.take j).foldl insT (stayT l J l.length)).length ≤ 200000 := by rw [hfl, List.length_take]; omega
  by_cases hj : j < parts.length
  ·have hs : (parts.take (j + 1)).foldl insT (stayT l J l.length) = insT ((parts.take j).foldl insT (stayT l J l.length)) (parts.getD j default) := by
    rw [take_succ_d hj, List.foldl_append]; rfl
   generalize (parts.take j).foldl insT (stayT l J l.length) = O at *
   have htt : (true : Bool) = true := rfl
   have hff : ¬ (false : Bool) = true := by decide
   repeat' (with_reducible first|apply Stp.go|refine imp fun _=>?_|refine zq ?_|refine zt ?_|refine zf ?_|refine zg ?_|refine za ?_|refine altF ?_|refine all fun _=>?_|refine both ?_ ?_|refine zu ?_|refine zv ?_|refine cho (fun _=>?_) fun _=>?_|refine zw ?_)
   refine loopI (β := Nat) (fun k => k ≤ O.length ∧ ∀ q, q < k → aheadT (O.getD q default) (parts.getD j default) = true) (fun k => [.lst 36 (parts.map tbF) m'', .own w O.length, I .i64 (j : Nat), I .i64 (k : Nat)]) (fun _ => [.row w TbE 36 (O.map tbF) 0]) (fun k => O.length - k) 0 ⟨Nat.zero_le _, fun q h => absurd h (Nat.not_lt_zero _)⟩ (Sub.refl _ _) ?_
   rintro k ⟨k1, k2⟩
   by_cases hk : k < O.length
   ·by_cases ha : aheadT (O.getD k default) (parts.getD j default) = true
    ·by_cases c1 : (O.getD k default).lev = (parts.getD j default).lev
     ·have c0 : ¬ (parts.getD j default).lev < (O.getD k default).lev := by omega
      have c2 : lt (O.getD k default).fst (parts.getD j default).fst = true := by
       unfold aheadT at ha
       rw [decide_eq_false (by omega), decide_eq_true c1, Bool.false_or, Bool.true_and] at ha
       exact ha
      have c3 : ¬ (!lt (O.getD k default).fst (parts.getD j default).fst) = true := by rw [c2]; decide
      repeat' (with_reducible first|apply Stp.go|refine imp fun _=>?_|refine zq ?_|refine zt ?_|refine zf ?_|refine zg ?_|refine za ?_|refine altF ?_|refine all fun _=>?_|refine both ?_ ?_|refine zu ?_|refine zv ?_|refine cho (fun _=>?_) fun _=>?_|refine zw ?_)
      refine again (k + 1) (by omega) ⟨by omega, fun q hq => ?_⟩ (Sub.refl _ _)
      by_cases e : q = k
      ·subst e; exact ha
      ·exact k2 q (by omega)
     ·have c0 : ¬ (parts.getD j default).lev < (O.getD k default).lev := by
       unfold aheadT at ha
       rw [decide_eq_false c1, Bool.false_and, Bool.or_false, decide_eq_true_eq] at ha
       omega
      repeat' (with_reducible first|apply Stp.go|refine imp fun _=>?_|refine zq ?_|refine zt ?_|refine zf ?_|refine zg ?_|refine za ?_|refine altF ?_|refine all fun _=>?_|refine both ?_ ?_|refine zu ?_|refine zv ?_|refine cho (fun _=>?_) fun _=>?_|refine zw ?_)
      refine again (k + 1) (by omega) ⟨by omega, fun q hq => ?_⟩ (Sub.refl _ _)
      by_cases e : q = k
      ·subst e; exact ha
      ·exact k2 q (by omega)
    ·have ha := Bool.eq_false_iff.2 ha
     have hfi : O.findIdx (fun y => !aheadT y (parts.getD j default)) = k := findIdx_at hk (by rw [ha]; rfl) fun q hq => by rw [k2 q hq]; rfl
     have hins : insT O (parts.getD j default) = [] ++ List.take k (List.drop 0 O) ++ [parts.getD j default] ++ List.take (O.length - k) (List.drop k O) := by
      unfold insT
      rw [hfi, List.take_of_length_le (l := List.drop k O) (by rw [List.length_drop]; exact Nat.le_refl _)]
      simp
     have hd1 : (O.take k).length ≤ 200000 := by rw [List.length_take]; omega
     have hd2 : (O.drop k).length ≤ 200000 := by rw [List.length_drop]; omega
     by_cases c0 : (parts.getD j default).lev < (O.getD k default).lev
     ·repeat' (with_reducible first|apply Stp.go|refine imp fun _=>?_|refine zq ?_|refine zt ?_|refine zf ?_|refine zg ?_|refine za ?_|refine altF ?_|refine all fun _=>?_|refine both ?_ ?_|refine zu ?_|refine zv ?_|refine cho (fun _=>?_) fun _=>?_|refine zw ?_)
      refine joinI (β := Value) (fun _ => True) (fun w2 => [.lst 36 (parts.map tbF) m'', .own w2 (insT O (parts.getD j default)).length, I .i64 (j : Nat)]) (fun w2 => [.row w2 TbE 36 ((insT O (parts.getD j default)).map tbF) 0]) ?_ ?_
      ·rw [hins]
       repeat' (with_reducible first|apply Stp.go|refine imp fun _=>?_|refine zq ?_|refine zt ?_|refine zf ?_|refine zg ?_|refine za ?_|refine altF ?_|refine all fun _=>?_|refine both ?_ ?_|refine zu ?_|refine zv ?_|refine cho (fun _=>?_) fun _=>?_|refine zw ?_)
       all_goals
        rename_i w2
        exact meet w2 trivial (Sub.drop_ (.cons_cons _ (List.nil_sublist _)) _)
      ·intro w2 _
       have hinl := insT_len O (parts.getD j default)
       repeat' (with_reducible first|apply Stp.go|refine imp fun _=>?_|refine zq ?_|refine zt ?_|refine zf ?_|refine zg ?_|refine za ?_|refine altF ?_|refine all fun _=>?_|refine both ?_ ?_|refine zu ?_|refine zv ?_|refine cho (fun _=>?_) fun _=>?_|refine zw ?_)
       exact again (j + 1, w2) (by dsimp only; omega) (by dsimp only; omega) (by dsimp only; rw [hs]; exact Sub.refl _ _)
     ·unfold aheadT at ha
      rw [Bool.or_eq_false_iff, decide_eq_false_iff_not] at ha
      have c1 : (O.getD k default).lev = (parts.getD j default).lev := by omega
      have c2 : lt (O.getD k default).fst (parts.getD j default).fst = false := by
       have := ha.2
       rw [decide_eq_true c1, Bool.true_and] at this
       exact this
      have c3 : (!lt (O.getD k default).fst (parts.getD j default).fst) = true := by rw [c2]; rfl
      repeat' (with_reducible first|apply Stp.go|refine imp fun _=>?_|refine zq ?_|refine zt ?_|refine zf ?_|refine zg ?_|refine za ?_|refine altF ?_|refine all fun _=>?_|refine both ?_ ?_|refine zu ?_|refine zv ?_|refine cho (fun _=>?_) fun _=>?_|refine zw ?_)
      refine joinI (β := Value) (fun _ => True) (fun w2 => [.lst 36 (parts.map tbF) m'', .own w2 (insT O (parts.getD j default)).length, I .i64 (j : Nat)]) (fun w2 => [.row w2 TbE 36 ((insT O (parts.getD j default)).map tbF) 0]) ?_ ?_
      ·rw [hins]
       repeat' (with_reducible first|apply Stp.go|refine imp fun _=>?_|refine zq ?_|refine zt ?_|refine zf ?_|refine zg ?_|refine za ?_|refine altF ?_|refine all fun _=>?_|refine both ?_ ?_|refine zu ?_|refine zv ?_|refine cho (fun _=>?_) fun _=>?_|refine zw ?_)
       all_goals
        rename_i w2
        exact meet w2 trivial (Sub.drop_ (.cons_cons _ (List.nil_sublist _)) _)
      ·intro w2 _
       have hinl := insT_len O (parts.getD j default)
       repeat' (with_reducible first|apply Stp.go|refine imp fun _=>?_|refine zq ?_|refine zt ?_|refine zf ?_|refine zg ?_|refine za ?_|refine altF ?_|refine all fun _=>?_|refine both ?_ ?_|refine zu ?_|refine zv ?_|refine cho (fun _=>?_) fun _=>?_|refine zw ?_)
       exact again (j + 1, w2) (by dsimp only; omega) (by dsimp only; omega) (by dsimp only; rw [hs]; exact Sub.refl _ _)
   ·have ek : k = O.length := by omega
    subst ek
    have hfi : O.findIdx (fun y => !aheadT y (parts.getD j default)) = O.length := findIdx_none fun q hq => by rw [k2 q hq]; rfl
    have hins : insT O (parts.getD j default) = [] ++ List.take O.length (List.drop 0 O) ++ [parts.getD j default] ++ List.take (O.length - O.length) (List.drop O.length O) := by
     unfold insT
     rw [hfi, List.take_of_length_le (l := List.drop O.length O) (by rw [List.length_drop]; exact Nat.le_refl _)]
     simp
    have hd1 : (O.take O.length).length ≤ 200000 := by rw [List.length_take]; omega
    have hd2 : (O.drop O.length).length ≤ 200000 := by rw [List.length_drop]; omega
    repeat' (with_reducible first|apply Stp.go|refine imp fun _=>?_|refine zq ?_|refine zt ?_|refine zf ?_|refine zg ?_|refine za ?_|refine altF ?_|refine all fun _=>?_|refine both ?_ ?_|refine zu ?_|refine zv ?_|refine cho (fun _=>?_) fun _=>?_|refine zw ?_)
    refine joinI (β := Value) (fun _ => True) (fun w2 => [.lst 36 (parts.map tbF) m'', .own w2 (insT O (parts.getD j default)).length, I .i64 (j : Nat)]) (fun w2 => [.row w2 TbE 36 ((insT O (parts.getD j default)).map tbF) 0]) ?_ ?_
    ·rw [hins]
     repeat' (with_reducible first|apply Stp.go|refine imp fun _=>?_|refine zq ?_|refine zt ?_|refine zf ?_|refine zg ?_|refine za ?_|refine altF ?_|refine all fun _=>?_|refine both ?_ ?_|refine zu ?_|refine zv ?_|refine cho (fun _=>?_) fun _=>?_|refine zw ?_)
     all_goals
      rename_i w2
      exact meet w2 trivial (Sub.drop_ (.cons_cons _ (List.nil_sublist _)) _)
    ·intro w2 _
     have hinl := insT_len O (parts.getD j default)
     repeat' (with_reducible first|apply Stp.go|refine imp fun _=>?_|refine zq ?_|refine zt ?_|refine zf ?_|refine zg ?_|refine za ?_|refine altF ?_|refine all fun _=>?_|refine both ?_ ?_|refine zu ?_|refine zv ?_|refine cho (fun _=>?_) fun _=>?_|refine zw ?_)
     exact again (j + 1, w2) (by dsimp only; omega) (by dsimp only; omega) (by dsimp only; rw [hs]; exact Sub.refl _ _)
  ·have e : j = parts.length := by omega
   subst e
   rw [List.take_length] at hol ⊢
   repeat' (with_reducible first|apply Stp.go|refine imp fun _=>?_|refine zq ?_|refine zt ?_|refine zf ?_|refine zg ?_|refine za ?_|refine altF ?_|refine all fun _=>?_|refine both ?_ ?_|refine zu ?_|refine zv ?_|refine cho (fun _=>?_) fun _=>?_|refine zw ?_)
   exact ⟨_, _, _, rfl, retOwn (Sub.refl _ _), rfl, rfl⟩
end Go.Ab

namespace Go.Ab
open Go.Proofs
instance {a c d : AV} {l : List TabR} {J : List Int} {parts : List TabR} {m m' m'' : SM} [h1 : IsL a tbF 36 l m] [h2 : IsL c it 1 J m'] [h3 : IsL d tbF 36 parts m''] : PC Tryz.prog 18 [a, c, d] (l.length ≤ 100000 ∧ J.length ≤ 100000 ∧ parts.length ≤ 100000) (.lst 36 ((placeT l J parts).map tbF) .ro) := ⟨fun hl => ⟨[.lst 36 (l.map tbF) m, .lst 1 (J.map it) m', .lst 36 (parts.map tbF) m''], ⟨h1.sub, h2.sub, h3.sub, trivial⟩, rPlace_ok l J parts m m' m'' hl.1 hl.2.1 hl.2.2⟩⟩
theorem rdesc17 {a : AV} {m : SM} {b : Int} {l : List En} {x : Int} [h : IsL a En.av 4 l m] {lev : Nat} (hx : x = (lev : Nat)) (hf : fit l = true) (hv : lev < 4) : PC Tryz.prog 36 [I .i64 b, .val (.int .i64 x), a] True (.tuple [tbF (newT b lev l), .val (.int .i64 0)]) := by
 subst hx
 exact refDesc (b := b) rfl hf hv
def ref17_Compact.mark : Mark := ⟨fun t => Nat.beq t 22 || Nat.beq t 27 || Nat.beq t 58 || Nat.beq t 77 || Nat.beq t 78 || Nat.beq t 92, fun t => false, fun t => false, fun t => Nat.beq t 50 || Nat.beq t 53 || Nat.beq t 57 || Nat.beq t 69 || Nat.beq t 71 || Nat.beq t 91, fun t => false⟩
def ref17_Compact.ann : Ann := ⟨fun n => bif Nat.beq n 10 then [0, 1, 2, 10, 11, 13] else bif Nat.beq n 18 then [0, 1, 10, 11, 16, 17, 18] else [], fun n => none, fun n => none⟩
def ref17_Compact.sh (a0 a1 a2 : AV) (σ : Store) (Q : AEnd → Store → Prop) : Prop :=
 Do (aPureC Tryz.prog 32 [a1]) fun t22 =>
 Do (aUn Tryz.prog .not t22) fun t24 =>
 aCond t24
 (Q (.ret (.tuple [(.val (.slice none 0 0)), (.val (.slice none 0 0)), (.val (.int .i64 1))])) σ)
 (Do (aPureC Tryz.prog 10 [a1]) fun t27 =>
 Do (aExt t27 0) fun t28 =>
 Do (aExt t27 1) fun t29 =>
 Do (aExt t27 2) fun t30 =>
 Do (aUn Tryz.prog .not t30) fun t32 =>
 aCond t32
 (Q (.ret (.tuple [(.val (.slice none 0 0)), (.val (.slice none 0 0)), (.val (.int .i64 5))])) σ)
 (Do (aBuiltin Tryz.prog .len #[23] [t28]) fun t34 =>
 Do (aBuiltin Tryz.prog .len #[22] [a2]) fun t36 =>
 Do (aBin Tryz.prog .neq 3 t34 t36) fun t37 =>
 aCond t37
 (Q (.ret (.tuple [(.val (.slice none 0 0)), (.val (.slice none 0 0)), (.val (.int .i64 8))])) σ)
 (aLoop (fun go vs σ =>
 At vs 0 fun s0 => At vs 1 fun s1 => At vs 2 fun s2 => At vs 3 fun s10 => At vs 4 fun s11 => At vs 5 fun s13 => Do (aBuiltin Tryz.prog .len #[23] [s10]) fun t40 =>
 Do (aBin Tryz.prog .lss 3 s13 t40) fun t41 =>
 aCond t41
 (Do (aIndexAddr .slice 1 s10 s13) fun t49 =>
 Do (loadF false 1 t49) fun t50 =>
 Do (aIndexAddr .slice 36 s1 t50) fun t51 =>
 Do (aFieldAddr 0 1 t51) fun t52 =>
 Do (loadF false 1 t52) fun t53 =>
 Do (aIndexAddr .slice 1 s2 s13) fun t56 =>
 Do (loadF false 1 t56) fun t57 =>
 Do (aPureC Tryz.prog 36 [s0, t53, t57]) fun t58 =>
 Do (aExt t58 0) fun t59 =>
 Do (aExt t58 1) fun t60 =>
 aNewVar 58 [.val (.int .i64 0), .val (.int .i64 0), .val (.int .u8 0), .val (.int .u8 0), .val (.int .u8 0), .val (.int .u8 0), .val (.int .u8 0), .val (.int .u8 0), .val (.int .u8 0), .val (.int .u8 0), .val (.int .u8 0), .val (.int .u8 0), .val (.int .u8 0), .val (.int .u8 0), .val (.int .u8 0), .val (.int .u8 0), .val (.int .u8 0), .val (.int .u8 0), .val (.int .u8 0), .val (.int .u8 0), .val (.int .u8 0), .val (.int .u8 0), .val (.int .u8 0), .val (.int .u8 0), .val (.int .u8 0), .val (.int .u8 0), .val (.int .u8 0), .val (.int .u8 0), .val (.int .u8 0), .val (.int .u8 0), .val (.int .u8 0), .val (.int .u8 0), .val (.int .u8 0), .val (.int .u8 0), .val (.string ⟨#[]⟩), .val (.string ⟨#[]⟩)] σ fun t14 σ_1 =>
 storeA 36 t14 t59 σ_1 fun u σ_2 =>
 Do (aBin Tryz.prog .neq 35 t60 (.val (.int .i64 0))) fun t62 =>
 Do (aGuard t62 false (loadA true 36 t14 σ_2)) fun t64 =>
 Do (aGuard t62 false (aIs s1)) fun t65 =>
 Do (aGuard t62 false (aIs s10)) fun t66 =>
 Do (aGuard t62 false (aIs s13)) fun t67 =>
 Do (aGuard t62 false (aIndexAddr .slice 1 t66 t67)) fun t68 =>
 Do (aGuard t62 false (loadF false 1 t68)) fun t69 =>
 Do (aGuard t62 false (aIndexAddr .slice 36 t65 t69)) fun t70 =>
 Do (aGuard t62 false (loadF true 36 t70)) fun t71 =>
 Do (aGuard t62 false (aBin Tryz.prog .neq 58 t64 t71)) fun t72 =>
 Do (aPick t62 (.val (.bool true)) t72) fun t73 =>
 aCond t73
 (Q (.ret (.tuple [(.val (.slice none 0 0)), (.val (.slice none 0 0)), (.val (.int .i64 8))])) σ_2)
 (Do (aBin Tryz.prog .add 3 s13 (.val (.int .i64 1))) fun t43 =>
 go [s0, s1, s2, s10, s11, t43] σ_2))
 (Do (aBin Tryz.prog .eql 3 s11 (.val (.int .i64 3))) fun t76 =>
 Do (aPureC Tryz.prog 38 [s2, t76]) fun t77 =>
 Do (aPureC Tryz.prog 37 [t77]) fun t78 =>
 aLoop (fun go_1 vs_1 σ_3 =>
 At vs_1 0 fun s0_1 => At vs_1 1 fun s1_1 => At vs_1 2 fun s10_1 => At vs_1 3 fun s11_1 => At vs_1 4 fun s16 => At vs_1 5 fun s17 => At vs_1 6 fun s18 => Do (aBuiltin Tryz.prog .len #[22] [s16]) fun t81 =>
 Do (aBin Tryz.prog .lss 3 s18 t81) fun t82 =>
 aCond t82
 (Do (aIndexAddr .slice 1 s16 s18) fun t90 =>
 Do (loadF false 1 t90) fun t91 =>
 Do (aPureC Tryz.prog 36 [s0_1, s11_1, t91]) fun t92 =>
 Do (aExt t92 0) fun t93 =>
 Do (aExt t92 1) fun t94 =>
 aNewVar 58 [.val (.int .i64 0), .val (.int .i64 0), .val (.int .u8 0), .val (.int .u8 0), .val (.int .u8 0), .val (.int .u8 0), .val (.int .u8 0), .val (.int .u8 0), .val (.int .u8 0), .val (.int .u8 0), .val (.int .u8 0), .val (.int .u8 0), .val (.int .u8 0), .val (.int .u8 0), .val (.int .u8 0), .val (.int .u8 0), .val (.int .u8 0), .val (.int .u8 0), .val (.int .u8 0), .val (.int .u8 0), .val (.int .u8 0), .val (.int .u8 0), .val (.int .u8 0), .val (.int .u8 0), .val (.int .u8 0), .val (.int .u8 0), .val (.int .u8 0), .val (.int .u8 0), .val (.int .u8 0), .val (.int .u8 0), .val (.int .u8 0), .val (.int .u8 0), .val (.int .u8 0), .val (.int .u8 0), .val (.string ⟨#[]⟩), .val (.string ⟨#[]⟩)] σ_3 fun t19 σ_4 =>
 storeA 36 t19 t93 σ_4 fun u_1 σ_5 =>
 Do (loadA true 36 t19 σ_5) fun t96 =>
 Do (aSlLit (mkE [.val (.int .i64 0), .val (.int .i64 0), .val (.int .u8 0), .val (.int .u8 0), .val (.int .u8 0), .val (.int .u8 0), .val (.int .u8 0), .val (.int .u8 0), .val (.int .u8 0), .val (.int .u8 0), .val (.int .u8 0), .val (.int .u8 0), .val (.int .u8 0), .val (.int .u8 0), .val (.int .u8 0), .val (.int .u8 0), .val (.int .u8 0), .val (.int .u8 0), .val (.int .u8 0), .val (.int .u8 0), .val (.int .u8 0), .val (.int .u8 0), .val (.int .u8 0), .val (.int .u8 0), .val (.int .u8 0), .val (.int .u8 0), .val (.int .u8 0), .val (.int .u8 0), .val (.int .u8 0), .val (.int .u8 0), .val (.int .u8 0), .val (.int .u8 0), .val (.int .u8 0), .val (.int .u8 0), .val (.string ⟨#[]⟩), .val (.string ⟨#[]⟩)]) 36 1 [(0, t96)]) fun t97 =>
 aAppend 58 36 80 s17 t97 σ_5 (subK fun t98 σ_6 =>
 Do (aBin Tryz.prog .add 3 s18 (.val (.int .i64 1))) fun t84 =>
 go_1 [s0_1, s1_1, s10_1, s11_1, s16, t98, t84] σ_6))
 (aCall Tryz.prog 18 [s1_1, s10_1, s17] σ_3 (fun t102 σ_7 =>
 Q (.ret (.tuple [t102, s16, (.val (.int .i64 0))])) σ_7) (fun e σ_8 => Q (.pan e) σ_8)))
 [s0, s1, s10, s11, t78, (.val (.slice none 0 0)), (.val (.int .i64 0))] σ))
 [a0, a1, a2, t28, t29, (.val (.int .i64 0))] σ)))
theorem ref17_Compact.eq (a0 a1 a2 : AV) (σ : Store) (Q : AEnd → Store → Prop) : vc (semOf Tryz.prog ref17_Compact.mark) Tryz.f14.ntmps ref17_Compact.ann (bodyOf Tryz.f14) (endK [.tmp 6, .tmp 7, .tmp 8] Q) (argFr [a0, a1, a2]) σ = ref17_Compact.sh a0 a1 a2 σ Q := by kernel_rfl
theorem ref17_Compact.go {a0 a1 a2 : AV} {σ : Store} {Q : AEnd → Store → Prop} (h : ref17_Compact.sh a0 a1 a2 σ Q) : ACalls Tryz.prog 14 [a0, a1, a2] σ Q :=
 acalls_of_eq [.tmp 6, .tmp 7, .tmp 8] Tryz.func14 (by kernel_rfl) (by kernel_rfl) (by kernel_rfl) (by kernel_rfl) (ref17_Compact.eq a0 a1 a2 σ Q) h
theorem rCompact_ok (b : Int) (l : List TabR) (RS : List (List En)) (m m' : SM) (hl : l.length ≤ 1000000) (hR : RS.length ≤ 1000000) (hRl : ∀ r ∈ RS, r.length ≤ 1000000) : aPure Tryz.prog 14 [I .i64 b, .lst 36 (l.map tbF) m, .lst 1 (RS.map enL) m'] (.tuple [.lst 36 ((compactT b l RS).1.1.map tbF) .ro, .lst 1 ((compactT b l RS).1.2.map enL) .ro, I .i64 ((compactT b l RS).2 : Nat)]) := by
 refine ACalls.fin (ref17_Compact.go ?_)
 unfold ref17_Compact.sh compactT
 by_cases hr : rightT l = true
 ·rw [if_pos hr]
  have hp := rInputs_ok l m hl
  unfold inputsR pickR at hp
  rw [if_pos hr] at hp
  obtain ⟨hm, hpw, h5⟩ := (rightT_iff l).1 hr
  by_cases hk : lvlT l < 3
  ·rw [if_pos hk] at hp ⊢
   have hmI : ∀ j, j < (inK l (lvlT l)).length → (inK l (lvlT l)).getD j default < l.length := fun j hj => (inK_mem.1 (getD_memT hj)).1
   have hIl : (inK l (lvlT l)).length ≤ l.length := Nat.le_trans (List.length_filter_le _ _) (by rw [List.length_range]; exact Nat.le_refl _)
   generalize lvlT l = k at *
   rw [map_itN] at hp
   have iP : PC Tryz.prog 10 [.lst 36 (l.map tbF) m] True _ := ⟨fun _ => PC.of hp⟩
   have htt : (true : Bool) = true := rfl
   by_cases hn : (inK l k).length = RS.length
   ·repeat' (with_reducible first|apply Stp.go|refine imp fun _=>?_|refine zq ?_|refine zt ?_|refine zf ?_|refine zg ?_|refine za ?_|refine altF ?_|refine all fun _=>?_|refine both ?_ ?_|refine zu ?_|refine zv ?_|refine cho (fun _=>?_) fun _=>?_|refine zw ?_)
    have hRn : RS.length ≤ 1000 := by omega
    refine loopI (β := Nat) (fun j => j ≤ (inK l k).length ∧ ∀ i, i < j → okB b (l.getD ((inK l k).getD i default) default) (RS.getD i default) = true)
     (fun j => [I .i64 b, .lst 36 (l.map tbF) m, .lst 1 (RS.map enL) m', .lst 1 ((inK l k).map itN) .ro, I .i64 (k + 1 : Nat), I .i64 (j : Nat)]) (fun _ => []) (fun j => (inK l k).length - j) 0 ⟨Nat.zero_le _, fun i h => absurd h (Nat.not_lt_zero _)⟩ (Sub.refl _ _) ?_
    rintro j ⟨j1, j2⟩
    by_cases hj : j < (inK l k).length
    ·have hix := hmI j hj
     have hjR : j < RS.length := by omega
     have hrl := hRl _ (getD_memT hjR)
     have hmx := mayT_lev (hm _ (getD_memT hix))
     obtain ⟨lv, hlv⟩ : ∃ lv : Nat, (l.getD ((inK l k).getD j default) default).lev = (lv : Nat) := ⟨_, (Int.toNat_of_nonneg hmx.1).symm⟩
     have hlv4 : lv < 4 := by omega
     have hno := allOk_no (b := b) (l := l) (RS := RS) hj
     unfold okB at hno j2
     generalize hx : l.getD ((inK l k).getD j default) default = x at *
     generalize hrow : RS.getD j default = row at *
     have hlt : x.lev.toNat = lv := by rw [hlv, Int.toNat_natCast]
     rw [hlt] at hno
     by_cases hf : fit row = true
     ·have iD : ∀ {a : AV} {m : SM} [h : IsL a En.av 4 row m], PC Tryz.prog 36 [I .i64 b, .val (.int .i64 ((lv : Nat) : Int)), a] True (.tuple [tbF (newT b lv row), .val (.int .i64 0)]) := rdesc17 (b := b) (lev := lv) rfl hf hlv4
      by_cases he : newT b lv row = x
      ·repeat' (with_reducible first|apply Stp.go|refine imp fun _=>?_|refine zq ?_|refine zt ?_|refine zf ?_|refine zg ?_|refine za ?_|refine altF ?_|refine all fun _=>?_|refine both ?_ ?_|refine zu ?_|refine zv ?_|refine cho (fun _=>?_) fun _=>?_|refine zw ?_)
       rw [hx, hlv, hrow]
       repeat' (with_reducible first|apply Stp.go|refine imp fun _=>?_|refine zq ?_|refine zt ?_|refine zf ?_|refine zg ?_|refine za ?_|refine altF ?_|refine all fun _=>?_|refine both ?_ ?_|refine zu ?_|refine zv ?_|refine cho (fun _=>?_) fun _=>?_|refine zw ?_)
       ·refine again (j + 1) (by omega) ⟨by omega, fun i hi => ?_⟩ (Sub.app_nil _)
        by_cases e : i = j
        ·subst e
         unfold okB
         rw [hx, hrow, hlt, hf, decide_eq_true he]
         rfl
        ·exact j2 i (by omega)
       ·exfalso
        rename_i h
        exact h (he.trans hx.symm)
      ·rw [if_neg fun h => hno (by rw [hf, decide_eq_false he]; exact Bool.false_ne_true) h.2]
       repeat' (with_reducible first|apply Stp.go|refine imp fun _=>?_|refine zq ?_|refine zt ?_|refine zf ?_|refine zg ?_|refine za ?_|refine altF ?_|refine all fun _=>?_|refine both ?_ ?_|refine zu ?_|refine zv ?_|refine cho (fun _=>?_) fun _=>?_|refine zw ?_)
       rw [hx, hlv, hrow]
       repeat' (with_reducible first|apply Stp.go|refine imp fun _=>?_|refine zq ?_|refine zt ?_|refine zf ?_|refine zg ?_|refine za ?_|refine altF ?_|refine all fun _=>?_|refine both ?_ ?_|refine zu ?_|refine zv ?_|refine cho (fun _=>?_) fun _=>?_|refine zw ?_)
       ·exfalso
        rename_i h
        exact he (Eq.trans (show newT b lv row = _ from h) hx)
       ·exact ⟨_, _, _, rfl, Sub.tuple (retNil tbF (sz := 36) (by decide) (retNil enL (sz := 1) (by decide) (Sub.app_nil _))), rfl, rfl⟩
     ·rw [if_neg fun h => hno (by rw [Bool.eq_false_iff.2 hf, Bool.false_and]; exact Bool.false_ne_true) h.2]
      have hde : dErr lv row = 1 := by unfold dErr dFit; rw [Bool.eq_false_iff.2 hf]; rfl
      repeat' (with_reducible first|apply Stp.go|refine imp fun _=>?_|refine zq ?_|refine zt ?_|refine zf ?_|refine zg ?_|refine za ?_|refine altF ?_|refine all fun _=>?_|refine both ?_ ?_|refine zu ?_|refine zv ?_|refine cho (fun _=>?_) fun _=>?_|refine zw ?_)
      rw [hx, hlv, hrow]
      repeat' (with_reducible first|apply Stp.go|refine imp fun _=>?_|refine zq ?_|refine zt ?_|refine zf ?_|refine zg ?_|refine za ?_|refine altF ?_|refine all fun _=>?_|refine both ?_ ?_|refine zu ?_|refine zv ?_|refine cho (fun _=>?_) fun _=>?_|refine zw ?_)
      all_goals exact ⟨_, _, _, rfl, Sub.tuple (retNil tbF (sz := 36) (by decide) (retNil enL (sz := 1) (by decide) (Sub.app_nil _))), rfl, rfl⟩
    ·have ej : j = (inK l k).length := by omega
     subst ej
     rw [if_pos ⟨hn, decide_eq_true j2⟩]
     have hRO : RowsOf b l (inK l k) RS := ⟨hn.symm, fun j hj => (okB_iff (hm _ (getD_memT (hmI j hj)))).1 (j2 j hj)⟩
     have hfit : ∀ r ∈ RS, fit r = true := fun r hr => hRO.fit hr
     have hRS : ∀ r ∈ RS, r.length ≤ 1000 := fun r hr => by have := (fit_right (hfit r hr)).1; omega
     have hpf : ∀ p ∈ partsT k RS, fit p = true := fun p hp => parts_fit hfit hp
     have hpl := parts_len17 (k := k) hfit
     have hmg := merge_le (decide (k + 1 = 3)) _ RS rfl
     have htl := totL_le' hRS
     have hm6 : (mergeL (decide (k + 1 = 3)) RS).length ≤ 100000 := by have := totL_le (RS := RS) fun r hr => (fit_right (hfit r hr)).1; omega
     have iI : IsL (.lst 1 ((inK l k).map itN) .ro) it 1 ((inK l k).map Int.ofNat) .ro := ⟨by rw [← map_itN]; exact SubV.refl _⟩
     repeat' (with_reducible first|apply Stp.go|refine imp fun _=>?_|refine zq ?_|refine zt ?_|refine zf ?_|refine zg ?_|refine za ?_|refine altF ?_|refine all fun _=>?_|refine both ?_ ?_|refine zu ?_|refine zv ?_|refine cho (fun _=>?_) fun _=>?_|refine zw ?_)
     rw [show splitL (mergeL (decide (k + 1 = 3)) RS) = partsT k RS from rfl]
     have hnx : nextT b l k RS = placeT l ((inK l k).map Int.ofNat) ((partsT k RS).map (newT b (k + 1))) := rfl
     rw [hnx]
     generalize partsT k RS = PP at *
     refine loopI (β := Nat × Value) (fun x => x.1 ≤ PP.length)
      (fun x => [I .i64 b, .lst 36 (l.map tbF) m, .lst 1 ((inK l k).map itN) .ro, I .i64 (k + 1 : Nat), .lst 1 (PP.map enL) .ro, .own x.2 ((PP.take x.1).map (newT b (k + 1))).length, I .i64 (x.1 : Nat)])
      (fun x => [.row x.2 TbE 36 (((PP.take x.1).map (newT b (k + 1))).map tbF) 0]) (fun x => PP.length - x.1) (0, .slice none 0 0) (Nat.zero_le _) (Sub.nil_own TbE (sz := 36) (by decide) _ [_, _, _, _, _] [_]) ?_
     rintro ⟨j, v⟩ q1
     dsimp only at q1 ⊢
     by_cases hjp : j < PP.length
     ·have htk := congrArg (List.map (newT b (k + 1))) (take_succ_d hjp)
      rw [List.map_append] at htk
      have hjf := hpf _ (getD_memT hjp)
      have hln : ((PP.take j).map (newT b (k + 1))).length ≤ 10000 := by rw [List.length_map, List.length_take]; omega
      have iD : ∀ {a : AV} {m : SM} [h : IsL a En.av 4 (PP.getD j default) m], PC Tryz.prog 36 [I .i64 b, .val (.int .i64 ((k + 1 : Nat) : Int)), a] True (.tuple [tbF (newT b (k + 1) (PP.getD j default)), .val (.int .i64 0)]) := rdesc17 (b := b) (lev := k + 1) rfl hjf (by omega)
      repeat' (with_reducible first|apply Stp.go|refine imp fun _=>?_|refine zq ?_|refine zt ?_|refine zf ?_|refine zg ?_|refine za ?_|refine altF ?_|refine all fun _=>?_|refine both ?_ ?_|refine zu ?_|refine zv ?_|refine cho (fun _=>?_) fun _=>?_|refine zw ?_)
      rename_i bx w
      exact again (j + 1, w) (by dsimp only; omega) (by dsimp only; omega) (by dsimp only; rw [htk]; exact Sub.drop_ (.cons _ (.cons_cons _ .slnil)) _)
     ·have ej : j = PP.length := by omega
      subst ej
      rw [List.take_length]
      have hln : (PP.map (newT b (k + 1))).length ≤ 10000 := by rw [List.length_map]; omega
      repeat' (with_reducible first|apply Stp.go|refine imp fun _=>?_|refine zq ?_|refine zt ?_|refine zf ?_|refine zg ?_|refine za ?_|refine altF ?_|refine all fun _=>?_|refine both ?_ ?_|refine zu ?_|refine zv ?_|refine cho (fun _=>?_) fun _=>?_|refine zw ?_)
      exact ⟨_, _, _, rfl, Sub.refl _ _, rfl, rfl⟩
   ·rw [if_neg fun h => hn h.1]
    repeat' (with_reducible first|apply Stp.go|refine imp fun _=>?_|refine zq ?_|refine zt ?_|refine zf ?_|refine zg ?_|refine za ?_|refine altF ?_|refine all fun _=>?_|refine both ?_ ?_|refine zu ?_|refine zv ?_|refine cho (fun _=>?_) fun _=>?_|refine zw ?_)
    all_goals exact ⟨_, _, _, rfl, Sub.tuple (retNil tbF (sz := 36) (by decide) (retNil enL (sz := 1) (by decide) (Sub.app_nil _))), rfl, rfl⟩
  ·rw [if_neg hk] at hp ⊢
   have iP : PC Tryz.prog 10 [.lst 36 (l.map tbF) m] True _ := ⟨fun _ => PC.of hp⟩
   have hff : ¬ (false : Bool) = true := by decide
   repeat' (with_reducible first|apply Stp.go|refine imp fun _=>?_|refine zq ?_|refine zt ?_|refine zf ?_|refine zg ?_|refine za ?_|refine altF ?_|refine all fun _=>?_|refine both ?_ ?_|refine zu ?_|refine zv ?_|refine cho (fun _=>?_) fun _=>?_|refine zw ?_)
   all_goals exact ⟨_, _, _, rfl, Sub.tuple (retNil tbF (sz := 36) (by decide) (retNil enL (sz := 1) (by decide) (Sub.app_nil _))), rfl, rfl⟩
 ·rw [if_neg hr]
  repeat' (with_reducible first|apply Stp.go|refine imp fun _=>?_|refine zq ?_|refine zt ?_|refine zf ?_|refine zg ?_|refine za ?_|refine altF ?_|refine all fun _=>?_|refine both ?_ ?_|refine zu ?_|refine zv ?_|refine cho (fun _=>?_) fun _=>?_|refine zw ?_)
  all_goals exact ⟨_, _, _, rfl, Sub.tuple (retNil tbF (sz := 36) (by decide) (retNil enL (sz := 1) (by decide) (Sub.app_nil _))), rfl, rfl⟩
end Go.Ab

namespace Go.Ab
open Go.Proofs
theorem lvlT_few {l : List TabR} (h : l.length ≤ 4) : lvlT l = 3 := lvlT_none fun j hj => by
 have h1 := ownP_len l j
 unfold hot
 rw [decide_eq_false_iff_not]
 have h2 : 4 ≤ capT j := by unfold capT; split <;> decide
 omega
def law17_shown.mark : Mark := ⟨fun t => Nat.beq t 15 || Nat.beq t 21 || Nat.beq t 27, fun t => false, fun t => false, fun t => Nat.beq t 38 || Nat.beq t 45, fun t => false⟩
def law17_shown.ann : Ann := ⟨fun n => [], fun n => none, fun n => none⟩
def law17_shown.sh (σ : Store) (Q : AEnd → Store → Prop) : Prop :=
 Do (aLit [.val (.int .i64 0)] [(0, 1)] [(0, (.val (.int .i64 256)))]) fun t10 =>
 aNewVar 27 [.val (.int .i64 0)] σ fun t1 σ =>
 storeA 1 t1 t10 σ fun u σ_1 =>
 Do (loadA true 1 t1 σ_1) fun t12 =>
 Do (aLit [.val (.string ⟨#[]⟩), .val (.string ⟨#[]⟩), .val (.bool false), .val (.int .i64 0)] [(0, 1), (1, 1), (2, 1), (3, 1)] [(0, (.val (.string ⟨#[97]⟩))), (3, (.val (.int .i64 1)))]) fun t13 =>
 Do (aSlLit (mkE [.val (.string ⟨#[]⟩), .val (.string ⟨#[]⟩), .val (.bool false), .val (.int .i64 0)]) 4 1 [(0, t13)]) fun t14 =>
 Do (aPureC Tryz.prog 20 [t12, (.val (.slice none 0 0)), t14]) fun t15 =>
 Do (aExt t15 0) fun t16 =>
 Do (aExt t15 1) fun t17 =>
 Do (loadA true 1 t1 σ_1) fun t19 =>
 Do (aPureC Tryz.prog 13 [t19, t16, (.val (.slice none 0 0))]) fun t21 =>
 Do (aExt t21 0) fun t22 =>
 Do (aExt t21 1) fun t23 =>
 Do (aExt t21 2) fun t24 =>
 Do (aPureC Tryz.prog 9 [t16]) fun t27 =>
 Do (aExt t27 0) fun t28 =>
 Do (aExt t27 1) fun t29 =>
 Do (aExt t27 2) fun t30 =>
 Do (aBuiltin Tryz.prog .len #[24] [t16]) fun t32 =>
 Do (aBin Tryz.prog .eql 3 t32 (.val (.int .i64 1))) fun t33 =>
 Do (aGuard t33 true (aIs t16)) fun t35 =>
 Do (aGuard t33 true (aIndexAddr .slice 36 t35 (.val (.int .i64 0)))) fun t36 =>
 Do (aGuard t33 true (aFieldAddr 0 1 t36)) fun t37 =>
 Do (aGuard t33 true (loadF false 1 t37)) fun t38 =>
 Do (aGuard t33 true (aBin Tryz.prog .eql 3 t38 (.val (.int .i64 0)))) fun t39 =>
 Do (aPick t33 t39 (.val (.bool false))) fun t40 =>
 Do (aGuard t40 true (aIs t16)) fun t42 =>
 Do (aGuard t40 true (aIndexAddr .slice 36 t42 (.val (.int .i64 0)))) fun t43 =>
 Do (aGuard t40 true (aFieldAddr 1 1 t43)) fun t44 =>
 Do (aGuard t40 true (loadF false 1 t44)) fun t45 =>
 Do (aGuard t40 true (aBin Tryz.prog .eql 3 t45 (.val (.int .i64 1)))) fun t46 =>
 Do (aPick t40 t46 (.val (.bool false))) fun t47 =>
 Do (aGuard t47 true (aIs t17)) fun t49 =>
 Do (aGuard t47 true (aBin Tryz.prog .eql 35 t49 (.val (.int .i64 0)))) fun t50 =>
 Do (aPick t47 t50 (.val (.bool false))) fun t51 =>
 Do (aGuard t51 true (aIs t24)) fun t53 =>
 Do (aGuard t51 true (aBin Tryz.prog .eql 35 t53 (.val (.int .i64 5)))) fun t54 =>
 Do (aPick t51 t54 (.val (.bool false))) fun t55 =>
 Do (aGuard t55 true (aIs t30)) fun t57 =>
 Do (aGuard t55 true (aUn Tryz.prog .not t57)) fun t58 =>
 Do (aPick t55 t58 (.val (.bool false))) fun t59 =>
 Q (.ret t59) σ_1
theorem law17_shown.eq (σ : Store) (Q : AEnd → Store → Prop) : vc (semOf Tryz.prog law17_shown.mark) Tryz.f7.ntmps law17_shown.ann (bodyOf Tryz.f7) (endK [.tmp 0] Q) (argFr []) σ = law17_shown.sh  σ Q := by kernel_rfl
theorem law17_shown.go {σ : Store} {Q : AEnd → Store → Prop} (h : law17_shown.sh  σ Q) : ACalls Tryz.prog 7 [] σ Q :=
 acalls_of_eq [.tmp 0] Tryz.func7 (by kernel_rfl) (by kernel_rfl) (by kernel_rfl) (by kernel_rfl) (law17_shown.eq  σ Q) h
theorem shown17_ok : aPure Tryz.prog 7 [] (B true) := by
 refine ACalls.fin (law17_shown.go ?_)
 unfold law17_shown.sh
 have hf : fit [⟨[97], [], false, 1⟩] = true := by decide
 have hF : flushT 256 [] [⟨[97], [], false, 1⟩] = ([newT 256 0 [⟨[97], [], false, 1⟩]], 0) := by
  unfold flushT
  rw [if_pos ⟨by decide, hf⟩]
  rfl
 obtain ⟨N, hN⟩ : ∃ N, N = newT 256 0 [⟨[97], [], false, 1⟩] := ⟨_, rfl⟩
 have n1 : N.lev = 0 := by rw [hN]; rfl
 have n2 : N.cnt = 1 := by rw [hN]; rfl
 have n3 : N.fst = [97] := by rw [hN]; rfl
 have n4 : N.lst = [97] := by rw [hN]; rfl
 rw [← hN] at hF
 clear hN
 have hr : rightT [N] = true := by
  unfold rightT
  rw [Bool.and_eq_true, decide_eq_true_eq, decide_eq_true_eq]
  refine ⟨fun i hi => ?_, by simp⟩
  have : i = 0 := by simpa using hi
  subst this
  unfold okT
  show (mayT N && (decide (0 = 0) || _)) = true
  unfold mayT
  rw [n1, n2, n3, n4]
  rfl
 have hc : lvlT [N] = 3 := lvlT_few (by simp)
 have iF : ∀ {a c : AV} {m m' : SM} [h : IsL a tbF 36 ([] : List TabR) m] [h' : IsL c En.av 4 [⟨[97], [], false, 1⟩] m'], PC Tryz.prog 20 [trA 256, a, c] True (.tuple [.lst 36 ([N].map tbF) .ro, I .i64 (0 : Nat)]) := fun {a c m m'} h h' => ⟨fun _ => by
  have := (inferInstance : PC Tryz.prog 20 [trA 256, a, c] _ _).ct ⟨by decide, by decide⟩
  rw [hF] at this
  exact this⟩
 have iI : PC Tryz.prog 9 [.lst 36 ([N].map tbF) .ro] True (.tuple [.lst 1 (([] : List Int).map it) .ro, I .i64 0, B false]) := ⟨fun _ => PC.of (by have := Inputs_ok [N] .ro (by simp); unfold inputsR pickR at this; rw [if_pos hr, hc, if_neg (by decide)] at this; exact this)⟩
 have hC := Compact_ok 256 [N] [] .ro .nil (by simp) (by simp) (fun r hr => by cases hr)
 unfold compactT at hC
 rw [if_pos hr, hc, if_neg (by decide)] at hC
 have iC : PC Tryz.prog 13 [trA 256, .lst 36 ([N].map tbF) .ro, .val (.slice none 0 0)] True (.tuple [.lst 36 (([] : List TabR).map tbF) .ro, .lst 1 (([] : List (List En)).map enL) .ro, I .i64 ((5 : Nat) : Int)]) := ⟨fun _ => ⟨[trA 256, .lst 36 ([N].map tbF) .ro, .lst 1 (([] : List (List En)).map enL) .nil], ⟨SubV.refl _, SubV.refl _, SubV.nil 1 (by decide), trivial⟩, hC⟩⟩
 repeat' (with_reducible first|apply Stp.go|refine imp fun _=>?_|refine zq ?_|refine zt ?_|refine zf ?_|refine zg ?_|refine za ?_|refine altF ?_|refine all fun _=>?_|refine both ?_ ?_|refine zu ?_|refine zv ?_|refine cho (fun _=>?_) fun _=>?_|refine zw ?_)
 all_goals first
  | exact ⟨_, _, _, rfl, Sub.app_nil _, rfl, rfl⟩
  | (exfalso; simp_all; done)
instance : PC Tryz.prog 7 [] True (B true) := ⟨fun _ => PC.of shown17_ok⟩
end Go.Ab

namespace Go.Ab
open Go.Proofs
theorem compact_store {b : Int} {l : List TabR} {rows : List (List En)} (h : StoreOk b l rows) (hk : lvlT l < 3) : compactT b l (rowsIn l (lvlT l) rows) = ((nextT b l (lvlT l) (rowsIn l (lvlT l) rows), partsT (lvlT l) (rowsIn l (lvlT l) rows)), 0) := by
 have hR := rowsIn_ok (k := lvlT l) h
 obtain ⟨hm, _, _⟩ := (rightT_iff l).1 h.right
 unfold compactT
 rw [if_pos h.right, if_pos hk, if_pos]
 refine ⟨hR.1.symm, ?_⟩
 unfold allOk
 rw [decide_eq_true_eq]
 intro j hj
 exact (okB_iff (hm _ (getD_memT (inK_mem.1 (getD_memT hj)).1))).2 (hR.2 j hj)
def mergedR (b : Int) (l : List TabR) (rows : List (List En)) : AV :=
 if lvlT l < 3 then .tuple [.lst 36 ((mergedT b l rows).1.map tbF) .ro, .lst 1 ((mergedT b l rows).2.map enL) .ro, B true]
 else .tuple [.lst 36 (([] : List TabR).map tbF) .ro, .lst 1 (([] : List (List En)).map enL) .ro, B false]
theorem tells_len {b : Int} : ∀ {l : List TabR} {rows : List (List En)}, Tells b l rows → ∀ r ∈ rows, fit r = true
 | _, _, .nil, r, hr => by cases hr
 | _, _, .cons h h2, r, hr => by
  rcases List.mem_cons.1 hr with rfl | hr
  ·exact h.fit
  ·exact tells_len h2 r hr
def law17_merged.mark : Mark := ⟨fun t => Nat.beq t 19 || Nat.beq t 72, fun t => false, fun t => Nat.beq t 3, fun t => Nat.beq t 34 || Nat.beq t 40 || Nat.beq t 50 || Nat.beq t 52 || Nat.beq t 56, fun t => false⟩
def law17_merged.ann : Ann := ⟨fun n => bif Nat.beq n 6 then [1, 2, 3, 9, 10, 12, 13] else [], fun n => none, fun n => none⟩
def law17_merged.sh (a0 a1 a2 : AV) (σ : Store) (Q : AEnd → Store → Prop) : Prop :=
 Do (aFreeze ((a0 : AV)).cells) fun t3 =>
 Do (aPureC Tryz.prog 9 [a1]) fun t19 =>
 Do (aExt t19 0) fun t20 =>
 Do (aExt t19 1) fun t21 =>
 Do (aExt t19 2) fun t22 =>
 Do (aUn Tryz.prog .not t22) fun t24 =>
 aCond t24
 (Q (.ret (.tuple [(.val (.slice none 0 0)), (.val (.slice none 0 0)), (.val (.bool false))])) σ)
 (aLoop (fun go vs σ =>
 At vs 0 fun s1 => At vs 1 fun s2 => At vs 2 fun s3 => At vs 3 fun s9 => At vs 4 fun s10 => At vs 5 fun s12 => At vs 6 fun s13 => Do (aBuiltin Tryz.prog .len #[23] [s9]) fun t27 =>
 Do (aBin Tryz.prog .lss 3 s13 t27) fun t28 =>
 aCond t28
 (Do (aIndexAddr .slice 1 s9 s13) fun t33 =>
 Do (loadF false 1 t33) fun t34 =>
 Do (aBin Tryz.prog .lss 3 t34 (.val (.int .i64 0))) fun t35 =>
 Do (aGuard t35 false (aIs s9)) fun t37 =>
 Do (aGuard t35 false (aIs s13)) fun t38 =>
 Do (aGuard t35 false (aIndexAddr .slice 1 t37 t38)) fun t39 =>
 Do (aGuard t35 false (loadF false 1 t39)) fun t40 =>
 Do (aGuard t35 false (aIs s2)) fun t41 =>
 Do (aGuard t35 false (aBuiltin Tryz.prog .len #[22] [t41])) fun t42 =>
 Do (aGuard t35 false (aBin Tryz.prog .geq 3 t40 t42)) fun t43 =>
 Do (aPick t35 (.val (.bool true)) t43) fun t44 =>
 aCond t44
 (Q (.ret (.tuple [(.val (.slice none 0 0)), (.val (.slice none 0 0)), (.val (.bool false))])) σ)
 (Do (aIndexAddr .slice 1 s9 s13) fun t49 =>
 Do (loadF false 1 t49) fun t50 =>
 Do (aIndexAddr .slice 1 s2 t50) fun t51 =>
 Do (loadF false 1 t51) fun t52 =>
 Do (aSlLit (mkE [.val (.slice none 0 0)]) 1 1 [(0, t52)]) fun t53 =>
 aAppend 33 1 24 s12 t53 σ (subK fun t54 σ_1 =>
 Do (aBin Tryz.prog .add 3 s13 (.val (.int .i64 1))) fun t30 =>
 go [s1, s2, s3, s9, s10, t54, t30] σ_1)))
 (Do (loadF true 1 s3) fun t56 =>
 aCall Tryz.prog 13 [t56, s1, s12] σ (fun t59 σ_2 =>
 Do (aExt t59 0) fun t60 =>
 Do (aExt t59 1) fun t61 =>
 Do (aExt t59 2) fun t62 =>
 Do (aBin Tryz.prog .neq 35 t62 (.val (.int .i64 0))) fun t64 =>
 aCond t64
 (Q (.ret (.tuple [(.val (.slice none 0 0)), (.val (.slice none 0 0)), (.val (.bool false))])) σ_2)
 (Do (aPureC Tryz.prog 55 [s1, s2, s9, s10, t61, t60]) fun t72 =>
 Q (.ret (.tuple [t60, t72, (.val (.bool true))])) σ_2)) (fun e σ_3 => Q (.pan e) σ_3)))
 [a1, a2, t3, t20, t21, (.val (.slice none 0 0)), (.val (.int .i64 0))] σ)
theorem law17_merged.eq (a0 a1 a2 : AV) (σ : Store) (Q : AEnd → Store → Prop) : vc (semOf Tryz.prog law17_merged.mark) Tryz.f26.ntmps law17_merged.ann (bodyOf Tryz.f26) (endK [.tmp 6, .tmp 7, .tmp 8] Q) (argFr [a0, a1, a2]) σ = law17_merged.sh a0 a1 a2 σ Q := by kernel_rfl
theorem law17_merged.go {a0 a1 a2 : AV} {σ : Store} {Q : AEnd → Store → Prop} (h : law17_merged.sh a0 a1 a2 σ Q) : ACalls Tryz.prog 26 [a0, a1, a2] σ Q :=
 acalls_of_eq [.tmp 6, .tmp 7, .tmp 8] Tryz.func26 (by kernel_rfl) (by kernel_rfl) (by kernel_rfl) (by kernel_rfl) (law17_merged.eq a0 a1 a2 σ Q) h
theorem merged_ok (b : Int) (l : List TabR) (rows : List (List En)) (h : StoreOk b l rows) : aPure Tryz.prog 26 [trA b, .lst 36 (l.map tbF) .ro, .lst 1 (rows.map enL) .ro] (mergedR b l rows) := by
 refine ACalls.fin (law17_merged.go ?_)
 unfold law17_merged.sh mergedR
 obtain ⟨hm, hpw, h5⟩ := (rightT_iff l).1 h.right
 have hrl := h.tells.len
 have hp := Inputs_ok l .ro (by omega)
 unfold inputsR pickR at hp
 rw [if_pos h.right] at hp
 have hfr := tells_len h.tells
 by_cases hk : lvlT l < 3
 ·rw [if_pos hk] at hp ⊢
  rw [map_itN] at hp
  have iP : PC Tryz.prog 9 [.lst 36 (l.map tbF) .ro] True _ := ⟨fun _ => PC.of hp⟩
  have htt : (true : Bool) = true := rfl
  have hmI : ∀ j, j < (inK l (lvlT l)).length → (inK l (lvlT l)).getD j default < l.length := fun j hj => (inK_mem.1 (getD_memT hj)).1
  have hIl : (inK l (lvlT l)).length ≤ l.length := Nat.le_trans (List.length_filter_le _ _) (by rw [List.length_range]; exact Nat.le_refl _)
  have hR := rowsIn_ok (k := lvlT l) h
  have hf : ∀ r ∈ rowsIn l (lvlT l) rows, fit r = true := fun r hr => hR.fit hr
  have hnl := (merged_all h hk).1
  have hnl2 := (merged_all h hk).2.1
  have hRl : (rowsIn l (lvlT l) rows).length = (inK l (lvlT l)).length := hR.1
  have hpl := parts_len17 (k := lvlT l) hf
  have hpf : ∀ p ∈ partsT (lvlT l) (rowsIn l (lvlT l) rows), p.length ≤ 100000 := fun p hp => by have := (fit_right (parts_fit hf hp)).1; omega
  have hC := Compact_ok b l (rowsIn l (lvlT l) rows) .ro .ro (by omega) (by omega) (fun r hr => by have := (fit_right (hf r hr)).1; omega)
  rw [compact_store h hk] at hC
  dsimp only at hC
  have iC : ∀ {a c : AV} {m m' : SM} [h1 : IsL a tbF 36 l m] [h2 : IsL c enL 1 (rowsIn l (lvlT l) rows) m'], PC Tryz.prog 13 [trA b, a, c] True (.tuple [.lst 36 ((nextT b l (lvlT l) (rowsIn l (lvlT l) rows)).map tbF) .ro, .lst 1 ((partsT (lvlT l) (rowsIn l (lvlT l) rows)).map enL) .ro, I .i64 ((0 : Nat) : Int)]) := by
   intro a c m m' h1 h2
   exact ⟨fun _ => ⟨[trA b, .lst 36 (l.map tbF) .ro, .lst 1 ((rowsIn l (lvlT l) rows).map enL) .ro], ⟨SubV.refl _, fun R v hv => SubV.ro _ _ _ R v (h1.sub R v hv), fun R v hv => SubV.ro _ _ _ R v (h2.sub R v hv), trivial⟩, hC⟩⟩
  have hnn : (nextT b l (lvlT l) (rowsIn l (lvlT l) rows)).length ≤ l.length := hnl2
  repeat' (with_reducible first|apply Stp.go|refine imp fun _=>?_|refine zq ?_|refine zt ?_|refine zf ?_|refine zg ?_|refine za ?_|refine altF ?_|refine all fun _=>?_|refine both ?_ ?_|refine zu ?_|refine zv ?_|refine cho (fun _=>?_) fun _=>?_|refine zw ?_)
  refine loopI (β := Nat × Value) (fun x => x.1 ≤ (inK l (lvlT l)).length)
   (fun x => [.lst 36 (l.map tbF) .ro, .lst 1 (rows.map enL) .ro, .rptr [I .i64 b], .lst 1 ((inK l (lvlT l)).map itN) .ro, I .i64 (lvlT l + 1 : Nat), .own x.2 (((inK l (lvlT l)).take x.1).map fun i => rows.getD i default).length, I .i64 (x.1 : Nat)])
   (fun x => [.row x.2 EsT 1 ((((inK l (lvlT l)).take x.1).map fun i => rows.getD i default).map enL) 0]) (fun x => (inK l (lvlT l)).length - x.1) (0, .slice none 0 0) (Nat.zero_le _) (Sub.nil_own EsT (sz := 1) (by decide) _ [_, _, _, _, _] [_]) ?_
  rintro ⟨i, v⟩ q1
  dsimp only at q1 ⊢
  by_cases hi : i < (inK l (lvlT l)).length
  ·have hx := hmI i hi
   have htk := congrArg (List.map fun i => rows.getD i default) (take_succ_d hi)
   rw [List.map_append] at htk
   have hln : (((inK l (lvlT l)).take i).map fun i => rows.getD i default).length ≤ 1000 := by rw [List.length_map, List.length_take]; omega
   repeat' (with_reducible first|apply Stp.go|refine imp fun _=>?_|refine zq ?_|refine zt ?_|refine zf ?_|refine zg ?_|refine za ?_|refine altF ?_|refine all fun _=>?_|refine both ?_ ?_|refine zu ?_|refine zv ?_|refine cho (fun _=>?_) fun _=>?_|refine zw ?_)
   rename_i w
   exact again (i + 1, w) (by dsimp only; omega) (by dsimp only; omega) (by dsimp only; rw [htk]; exact Sub.refl _ _)
  ·have ei : i = (inK l (lvlT l)).length := by omega
   subst ei
   rw [List.take_length, show ((inK l (lvlT l)).map fun i => rows.getD i default) = rowsIn l (lvlT l) rows from rfl]
   have iI : IsL (.lst 1 ((inK l (lvlT l)).map itN) .ro) it 1 ((inK l (lvlT l)).map Int.ofNat) .ro := ⟨by rw [← map_itN]; exact SubV.refl _⟩
   have hJl : ((inK l (lvlT l)).map Int.ofNat).length ≤ 100000 := by rw [List.length_map]; omega
   repeat' (with_reducible first|apply Stp.go|refine imp fun _=>?_|refine zq ?_|refine zt ?_|refine zf ?_|refine zg ?_|refine za ?_|refine altF ?_|refine all fun _=>?_|refine both ?_ ?_|refine zu ?_|refine zv ?_|refine cho (fun _=>?_) fun _=>?_|refine zw ?_)
   refine ⟨⟨hrl, by omega, hJl, by omega, by omega, hpf⟩, ?_⟩
   exact ⟨_, _, _, rfl, Sub.refl _ _, rfl, rfl⟩
 ·rw [if_neg hk] at hp ⊢
  have iP : PC Tryz.prog 9 [.lst 36 (l.map tbF) .ro] True _ := ⟨fun _ => PC.of hp⟩
  have hff : ¬ (false : Bool) = true := by decide
  repeat' (with_reducible first|apply Stp.go|refine imp fun _=>?_|refine zq ?_|refine zt ?_|refine zf ?_|refine zg ?_|refine za ?_|refine altF ?_|refine all fun _=>?_|refine both ?_ ?_|refine zu ?_|refine zv ?_|refine cho (fun _=>?_) fun _=>?_|refine zw ?_)
  all_goals exact ⟨_, _, _, rfl, Sub.tuple (retNil tbF (sz := 36) (by decide) (retNil enL (sz := 1) (by decide) (Sub.app_nil _))), rfl, rfl⟩
end Go.Ab

namespace Go.Ab
open Go.Proofs
def mergesT (b : Int) : Nat → List TabR × List (List En) → List TabR × List (List En)
 | 0, s => s
 | n + 1, s => if lvlT s.1 < 3 then mergesT b n (mergedT b s.1 s.2) else s
def cntM (merges : List Int) (i : Nat) : Nat := if i < merges.length then (merges.getD i default % 4).toNat else 0
def storeT (b : Int) (news : List (List En)) (merges : List Int) : Nat → List TabR × List (List En)
 | 0 => ([], [])
 | i + 1 => if (fit17 20 (news.getD i default)).length = 0 then storeT b news merges i
  else mergesT b (cntM merges i) (newT b 0 (fit17 20 (news.getD i default)) :: (storeT b news merges i).1, fit17 20 (news.getD i default) :: (storeT b news merges i).2)
theorem merges_ok {b : Int} : ∀ (n : Nat) {s : List TabR × List (List En)}, StoreOk b s.1 s.2 → StoreOk b (mergesT b n s).1 (mergesT b n s).2 ∧ (mergesT b n s).1.length ≤ s.1.length
 | 0, s, h => ⟨h, Nat.le_refl _⟩
 | n + 1, s, h => by
  unfold mergesT
  split
  ·rename_i hk
   have h1 := merged_all h hk
   have h2 := merges_ok n (s := mergedT b s.1 s.2) h1.1
   exact ⟨h2.1, by have := h1.2.1; omega⟩
  ·exact ⟨h, Nat.le_refl _⟩
theorem store_nil (b : Int) : StoreOk b [] [] := ⟨(rightT_iff _).2 ⟨fun x hx => (by cases hx), .nil, Nat.zero_le _⟩, .nil⟩
theorem store_all (b : Int) (news : List (List En)) (merges : List Int) : ∀ i, i ≤ 14 → StoreOk b (storeT b news merges i).1 (storeT b news merges i).2 ∧ (storeT b news merges i).1.length ≤ i
 | 0, _ => ⟨store_nil b, Nat.le_refl _⟩
 | i + 1, hi => by
  have ih := store_all b news merges i (by omega)
  unfold storeT
  split
  ·exact ⟨ih.1, by omega⟩
  ·rename_i h0
   have hf := fit17_fit (k := 20) (l := news.getD i default) (by decide) (by omega)
   have h1 := flush_all ih.1 hf (by omega)
   have h2 := merges_ok (cntM merges i) (s := (newT b 0 (fit17 20 (news.getD i default)) :: (storeT b news merges i).1, fit17 20 (news.getD i default) :: (storeT b news merges i).2)) h1
   refine ⟨h2.1, Nat.le_trans h2.2 ?_⟩
   dsimp only
   rw [List.length_cons]
   omega
instance mask2 {P : Program} {t : TypeId} {x : Int} {K : AV → Prop} : Stp (Do (aBin P .and t (.val (.int .i64 x)) (.val (.int .i64 3))) K) (K (.val (.int .i64 ((x % 4).toNat : Nat)))) := ⟨fun h => s_mask 2 (by decide) h⟩
def law17_store.mark : Mark := ⟨fun t => Nat.beq t 33 || Nat.beq t 41 || Nat.beq t 70, fun t => Nat.beq t 48, fun t => Nat.beq t 3, fun t => Nat.beq t 32 || Nat.beq t 38 || Nat.beq t 60 || Nat.beq t 67, fun t => false⟩
def law17_store.ann : Ann := ⟨fun n => bif Nat.beq n 4 then [1, 2, 3, 9, 10, 11] else bif Nat.beq n 14 then [1, 2, 3, 9, 10, 11, 15] else [], fun n => none, fun n => none⟩
def law17_store.sh (a0 a1 a2 : AV) (σ : Store) (Q : AEnd → Store → Prop) : Prop :=
 Do (aFreeze ((a0 : AV)).cells) fun t3 =>
 aLoop (fun go vs σ =>
 At vs 0 fun s1 => At vs 1 fun s2 => At vs 2 fun s3 => At vs 3 fun s9 => At vs 4 fun s10 => At vs 5 fun s11 => Do (aBuiltin Tryz.prog .len #[22] [s1]) fun t21 =>
 Do (aBin Tryz.prog .lss 3 s11 t21) fun t22 =>
 Do (aGuard t22 true (aIs s11)) fun t24 =>
 Do (aGuard t22 true (aBin Tryz.prog .lss 3 t24 (.val (.int .i64 14)))) fun t25 =>
 Do (aPick t22 t25 (.val (.bool false))) fun t26 =>
 aCond t26
 (Do (aIndexAddr .slice 1 s1 s11) fun t31 =>
 Do (loadF false 1 t31) fun t32 =>
 Do (aPureC Tryz.prog 19 [t32, (.val (.int .i64 20))]) fun t33 =>
 Do (aBuiltin Tryz.prog .len #[33] [t33]) fun t35 =>
 Do (aBin Tryz.prog .eql 3 t35 (.val (.int .i64 0))) fun t36 =>
 aCond t36
 (Do (aBin Tryz.prog .add 3 s11 (.val (.int .i64 1))) fun t28 =>
 go [s1, s2, s3, s9, s10, t28] σ)
 (Do (loadF true 1 s3) fun t38 =>
 Do (aPureC Tryz.prog 20 [t38, s9, t33]) fun t41 =>
 Do (aExt t41 0) fun t42 =>
 Do (aExt t41 1) fun t43 =>
 Do (aBin Tryz.prog .neq 35 t43 (.val (.int .i64 0))) fun t45 =>
 aCond t45
 (Q (.ret (.tuple [(.val (.slice none 0 0)), (.val (.slice none 0 0)), (.val (.bool false))])) σ)
 (aRowL 33 (mkE [.val (.slice none 0 0)]) 1 1 [(0, t33)] σ fun t48 σ_1 =>
 aAppend 33 1 24 t48 s10 σ_1 (subK fun t50 σ_2 =>
 aLoop (fun go_1 vs_1 σ_3 =>
 At vs_1 0 fun s1_1 => At vs_1 1 fun s2_1 => At vs_1 2 fun s3_1 => At vs_1 3 fun s9_1 => At vs_1 4 fun s10_1 => At vs_1 5 fun s11_1 => At vs_1 6 fun s15 => Do (aBuiltin Tryz.prog .len #[23] [s2_1]) fun t53 =>
 Do (aBin Tryz.prog .lss 3 s11_1 t53) fun t54 =>
 Do (aGuard t54 true (aIs s15)) fun t56 =>
 Do (aGuard t54 true (aIs s2_1)) fun t57 =>
 Do (aGuard t54 true (aIs s11_1)) fun t58 =>
 Do (aGuard t54 true (aIndexAddr .slice 1 t57 t58)) fun t59 =>
 Do (aGuard t54 true (loadF false 1 t59)) fun t60 =>
 Do (aGuard t54 true (aBin Tryz.prog .and 3 t60 (.val (.int .i64 3)))) fun t61 =>
 Do (aGuard t54 true (aBin Tryz.prog .lss 3 t56 t61)) fun t62 =>
 Do (aPick t54 t62 (.val (.bool false))) fun t63 =>
 aCond t63
 (Do (loadF true 1 s3_1) fun t67 =>
 Do (aPureC Tryz.prog 26 [t67, s9_1, s10_1]) fun t70 =>
 Do (aExt t70 0) fun t71 =>
 Do (aExt t70 1) fun t72 =>
 Do (aExt t70 2) fun t73 =>
 Do (aUn Tryz.prog .not t73) fun t75 =>
 aCond t75
 (Do (aBin Tryz.prog .add 3 s11_1 (.val (.int .i64 1))) fun t28_1 =>
 go [s1_1, s2_1, s3_1, s9_1, s10_1, t28_1] σ_3)
 (Do (aBin Tryz.prog .add 3 s15 (.val (.int .i64 1))) fun t65 =>
 go_1 [s1_1, s2_1, s3_1, t71, t72, s11_1, t65] σ_3))
 (Do (aBin Tryz.prog .add 3 s11_1 (.val (.int .i64 1))) fun t28_2 =>
 go [s1_1, s2_1, s3_1, s9_1, s10_1, t28_2] σ_3))
 [s1, s2, s3, t42, t50, s11, (.val (.int .i64 0))] σ_2))))
 (Q (.ret (.tuple [s9, s10, (.val (.bool true))])) σ))
 [a1, a2, t3, (.val (.slice none 0 0)), (.val (.slice none 0 0)), (.val (.int .i64 0))] σ
theorem law17_store.eq (a0 a1 a2 : AV) (σ : Store) (Q : AEnd → Store → Prop) : vc (semOf Tryz.prog law17_store.mark) Tryz.f8.ntmps law17_store.ann (bodyOf Tryz.f8) (endK [.tmp 6, .tmp 7, .tmp 8] Q) (argFr [a0, a1, a2]) σ = law17_store.sh a0 a1 a2 σ Q := by kernel_rfl
theorem law17_store.go {a0 a1 a2 : AV} {σ : Store} {Q : AEnd → Store → Prop} (h : law17_store.sh a0 a1 a2 σ Q) : ACalls Tryz.prog 8 [a0, a1, a2] σ Q :=
 acalls_of_eq [.tmp 6, .tmp 7, .tmp 8] Tryz.func8 (by kernel_rfl) (by kernel_rfl) (by kernel_rfl) (by kernel_rfl) (law17_store.eq a0 a1 a2 σ Q) h
theorem store_ok (b : Int) (news : List (List En)) (merges : List Int) (m m' : SM) (hn : news.length ≤ 9223372036854775807) (hm : merges.length ≤ 9223372036854775807) (hnl : ∀ r ∈ news, r.length ≤ 9223372036854775807) :
  aPure Tryz.prog 8 [trA b, .lst 1 (news.map enL) m, .lst 1 (merges.map it) m']
   (.tuple [.lst 36 ((storeT b news merges (min news.length 14)).1.map tbF) .ro, .lst 1 ((storeT b news merges (min news.length 14)).2.map enL) .ro, B true]) := by
 refine ACalls.fin (law17_store.go ?_)
 unfold law17_store.sh
 repeat' (with_reducible first|apply Stp.go|refine imp fun _=>?_|refine zq ?_|refine zt ?_|refine zf ?_|refine zg ?_|refine za ?_|refine altF ?_|refine all fun _=>?_|refine both ?_ ?_|refine zu ?_|refine zv ?_|refine cho (fun _=>?_) fun _=>?_|refine zw ?_)
 refine loopI (β := Nat) (fun i => i ≤ news.length ∧ i ≤ 14)
  (fun i => [.lst 1 (news.map enL) m, .lst 1 (merges.map it) m', .rptr [I .i64 b], .lst 36 ((storeT b news merges i).1.map tbF) .ro, .lst 1 ((storeT b news merges i).2.map enL) .ro, I .i64 (i : Nat)])
  (fun _ => []) (fun i => 14 - i) 0 ⟨Nat.zero_le _, Nat.zero_le _⟩
  (Sub.vals ⟨SubV.refl _, SubV.refl _, SubV.refl _, fun R v h => SubV.ro _ _ _ R v (SubV.nil 36 (by decide) R v h), fun R v h => SubV.ro _ _ _ R v (SubV.nil 1 (by decide) R v h), SubV.refl _, trivial⟩) ?_
 rintro i ⟨h1, h2⟩
 have hsi := store_all b news merges i h2
 by_cases hi : i < news.length ∧ i < 14
 ·obtain ⟨hi1, hi2⟩ := hi
  have hrl := hnl _ (getD_memT hi1)
  have hfl := fit17_len 20 (news.getD i default)
  have hst : storeT b news merges (i + 1) = if (fit17 20 (news.getD i default)).length = 0 then storeT b news merges i
   else mergesT b (cntM merges i) (newT b 0 (fit17 20 (news.getD i default)) :: (storeT b news merges i).1, fit17 20 (news.getD i default) :: (storeT b news merges i).2) := rfl
  have hff := fit17_fit (k := 20) (l := news.getD i default) (by decide)
  generalize hS : storeT b news merges i = s at *
  obtain ⟨l, rows⟩ := s
  dsimp only at hsi hst ⊢
  by_cases h0 : (fit17 20 (news.getD i default)).length = 0
  ·rw [if_pos h0] at hst
   repeat' (with_reducible first|apply Stp.go|refine imp fun _=>?_|refine zq ?_|refine zt ?_|refine zf ?_|refine zg ?_|refine za ?_|refine altF ?_|refine all fun _=>?_|refine both ?_ ?_|refine zu ?_|refine zv ?_|refine cho (fun _=>?_) fun _=>?_|refine zw ?_)
   exact again (i + 1) (by omega) ⟨by omega, by omega⟩ (by rw [hst]; exact Sub.refl _ _)
  ·rw [if_neg h0] at hst
   have hf := hff (by omega)
   have hrl2 := hsi.1.tells.len
   have hF := Flush_ok b l (fit17 20 (news.getD i default)) .ro .ro (by omega) (by omega)
   unfold flushT at hF
   rw [if_pos ⟨hsi.1.right, hf⟩, if_pos (by omega)] at hF
   dsimp only at hF
   have hso := flush_all hsi.1 hf (by omega)
   have iF : ∀ {a c : AV} {m m' : SM} [h1 : IsL a tbF 36 l m] [h2 : IsL c En.av 4 (fit17 20 (news.getD i default)) m'], PC Tryz.prog 20 [trA b, a, c] True (.tuple [.lst 36 ((newT b 0 (fit17 20 (news.getD i default)) :: l).map tbF) .ro, I .i64 ((0 : Nat) : Int)]) := by
    intro a c m m' h1 h2
    exact ⟨fun _ => ⟨[trA b, .lst 36 (l.map tbF) .ro, .lst 4 ((fit17 20 (news.getD i default)).map En.av) .ro], ⟨SubV.refl _, fun R v hv => SubV.ro _ _ _ R v (h1.sub R v hv), fun R v hv => SubV.ro _ _ _ R v (h2.sub R v hv), trivial⟩, hF⟩⟩
   repeat' (with_reducible first|apply Stp.go|refine imp fun _=>?_|refine zq ?_|refine zt ?_|refine zf ?_|refine zg ?_|refine za ?_|refine altF ?_|refine all fun _=>?_|refine both ?_ ?_|refine zu ?_|refine zv ?_|refine cho (fun _=>?_) fun _=>?_|refine zw ?_)
   rename_i v0 v1
   refine loopI (β := Nat × List TabR × List (List En)) (fun x => StoreOk b x.2.1 x.2.2 ∧ x.2.1.length ≤ i + 1 ∧ x.1 ≤ cntM merges i ∧ mergesT b (cntM merges i - x.1) x.2 = storeT b news merges (i + 1))
    (fun x => [.lst 1 (news.map enL) m, .lst 1 (merges.map it) m', .rptr [I .i64 b], .lst 36 (x.2.1.map tbF) .ro, .lst 1 (x.2.2.map enL) .ro, I .i64 (i : Nat), I .i64 (x.1 : Nat)])
    (fun _ => []) (fun x => cntM merges i - x.1) (0, newT b 0 (fit17 20 (news.getD i default)) :: l, fit17 20 (news.getD i default) :: rows) ⟨hso, by dsimp only; rw [List.length_cons]; omega, Nat.zero_le _, hst.symm⟩
    (Sub.cons_same _ (Sub.cons_same _ (Sub.cons_same _ (Sub.cons_same _ (retOwn (Sub.app_nil _)))))) ?_
   rintro ⟨k, l2, rows2⟩ ⟨q1, q2, q3, q4⟩
   dsimp only at q1 q2 q3 q4 ⊢
   have hM := merged_ok b l2 rows2 q1
   have hcn : cntM merges i = if i < merges.length then (merges.getD i default % 4).toNat else 0 := rfl
   by_cases him : i < merges.length
   ·rw [if_pos him] at hcn
    by_cases hk : k < cntM merges i
    ·rw [show cntM merges i - k = (cntM merges i - (k + 1)) + 1 by omega] at q4
     unfold mergesT at q4
     unfold mergedR at hM
     have hk2 : k < (merges.getD i default % 4).toNat := by omega
     by_cases hlv : lvlT l2 < 3
     ·rw [if_pos hlv] at q4 hM
      have iM : PC Tryz.prog 26 [trA b, .lst 36 (l2.map tbF) .ro, .lst 1 (rows2.map enL) .ro] True _ := ⟨fun _ => PC.of hM⟩
      have htt : (true : Bool) = true := rfl
      have hma := merged_all q1 hlv
      repeat' (with_reducible first|apply Stp.go|refine imp fun _=>?_|refine zq ?_|refine zt ?_|refine zf ?_|refine zg ?_|refine za ?_|refine altF ?_|refine all fun _=>?_|refine both ?_ ?_|refine zu ?_|refine zv ?_|refine cho (fun _=>?_) fun _=>?_|refine zw ?_)
      exact again (k + 1, mergedT b l2 rows2) (by dsimp only; omega) ⟨hma.1, by have := hma.2.1; dsimp only; omega, by dsimp only; omega, q4⟩ (Sub.refl _ _)
     ·rw [if_neg hlv] at q4 hM
      have iM : PC Tryz.prog 26 [trA b, .lst 36 (l2.map tbF) .ro, .lst 1 (rows2.map enL) .ro] True _ := ⟨fun _ => PC.of hM⟩
      have hff : ¬ (false : Bool) = true := by decide
      repeat' (with_reducible first|apply Stp.go|refine imp fun _=>?_|refine zq ?_|refine zt ?_|refine zf ?_|refine zg ?_|refine za ?_|refine altF ?_|refine all fun _=>?_|refine both ?_ ?_|refine zu ?_|refine zv ?_|refine cho (fun _=>?_) fun _=>?_|refine zw ?_)
      exact again (i + 1) (by omega) ⟨by omega, by omega⟩ (by rw [← q4]; exact Sub.refl _ _)
    ·have hk2 : ¬ k < (merges.getD i default % 4).toNat := by omega
     rw [show cntM merges i - k = 0 by omega] at q4
     repeat' (with_reducible first|apply Stp.go|refine imp fun _=>?_|refine zq ?_|refine zt ?_|refine zf ?_|refine zg ?_|refine za ?_|refine altF ?_|refine all fun _=>?_|refine both ?_ ?_|refine zu ?_|refine zv ?_|refine cho (fun _=>?_) fun _=>?_|refine zw ?_)
     exact again (i + 1) (by omega) ⟨by omega, by omega⟩ (by rw [← q4]; exact Sub.refl _ _)
   ·rw [if_neg him] at hcn
    rw [show cntM merges i - k = 0 by omega] at q4
    repeat' (with_reducible first|apply Stp.go|refine imp fun _=>?_|refine zq ?_|refine zt ?_|refine zf ?_|refine zg ?_|refine za ?_|refine altF ?_|refine all fun _=>?_|refine both ?_ ?_|refine zu ?_|refine zv ?_|refine cho (fun _=>?_) fun _=>?_|refine zw ?_)
    exact again (i + 1) (by omega) ⟨by omega, by omega⟩ (by rw [← q4]; exact Sub.refl _ _)
 ·have e : min news.length 14 = i := by omega
  rw [e]
  by_cases hi1 : i < news.length
  ·repeat' (with_reducible first|apply Stp.go|refine imp fun _=>?_|refine zq ?_|refine zt ?_|refine zf ?_|refine zg ?_|refine za ?_|refine altF ?_|refine all fun _=>?_|refine both ?_ ?_|refine zu ?_|refine zv ?_|refine cho (fun _=>?_) fun _=>?_|refine zw ?_)
   all_goals exact ⟨_, _, _, rfl, Sub.refl _ _, rfl, rfl⟩
  ·repeat' (with_reducible first|apply Stp.go|refine imp fun _=>?_|refine zq ?_|refine zt ?_|refine zf ?_|refine zg ?_|refine za ?_|refine altF ?_|refine all fun _=>?_|refine both ?_ ?_|refine zu ?_|refine zv ?_|refine cho (fun _=>?_) fun _=>?_|refine zw ?_)
   all_goals exact ⟨_, _, _, rfl, Sub.refl _ _, rfl, rfl⟩
end Go.Ab

namespace Go.Ab
open Go.Proofs
theorem compactT_len (b : Int) (l : List TabR) (RS : List (List En)) : (compactT b l RS).1.1.length ≤ l.length ∧ (compactT b l RS).1.2.length ≤ l.length ∧ ∀ r ∈ (compactT b l RS).1.2, r.length ≤ 64 := by
 unfold compactT
 split
 ·rename_i hr
  split
  ·rename_i hk
   split
   ·rename_i ha
    obtain ⟨hm, _, _⟩ := (rightT_iff l).1 hr
    have hR : RowsOf b l (inK l (lvlT l)) RS := ⟨ha.1.symm, fun j hj => by
     have := ha.2
     unfold allOk at this
     rw [decide_eq_true_eq] at this
     exact (okB_iff (hm _ (getD_memT (inK_mem.1 (getD_memT hj)).1))).1 (this j hj)⟩
    have hf : ∀ r ∈ RS, fit r = true := fun r hr => hR.fit hr
    have h1 := next_all hr hk hR
    have h2 := parts_len17 (k := lvlT l) hf
    have hIl : (inK l (lvlT l)).length ≤ l.length := Nat.le_trans (List.length_filter_le _ _) (by rw [List.length_range]; exact Nat.le_refl _)
    have h3 := hR.1
    exact ⟨h1.2.1, by dsimp only; omega, fun r hr => (fit_right (parts_fit hf hr)).1⟩
   ·exact ⟨Nat.zero_le _, Nat.zero_le _, fun r hr => by cases hr⟩
  ·exact ⟨Nat.zero_le _, Nat.zero_le _, fun r hr => by cases hr⟩
 ·exact ⟨Nat.zero_le _, Nat.zero_le _, fun r hr => by cases hr⟩
theorem placeT_len (l : List TabR) (J : List Int) (parts : List TabR) : (placeT l J parts).length ≤ l.length + parts.length := by
 unfold placeT
 rw [foldl_ins_len]
 have := stayT_len l J l.length
 omega
theorem inputs_some {l : List TabR} (h : rightT l = true) : ∃ (J : List Nat) (t : Int) (i : Bool), inputsR l = .tuple [.lst 1 (J.map itN) .ro, I .i64 t, B i] ∧ (∀ j, j < J.length → J.getD j default < l.length) ∧ J.length ≤ l.length := by
 unfold inputsR pickR
 rw [if_pos h]
 by_cases hk : lvlT l < 3
 ·rw [if_pos hk]
  refine ⟨inK l (lvlT l), _, _, by rw [map_itN], fun j hj => (inK_mem.1 (getD_memT hj)).1, Nat.le_trans (List.length_filter_le _ _) (by rw [List.length_range]; exact Nat.le_refl _)⟩
 ·rw [if_neg hk]
  exact ⟨[], _, _, rfl, fun j hj => (by cases hj), Nat.zero_le _⟩
instance {a c : AV} {b : Int} {l : List TabR} {RS : List (List En)} {m m' : SM} [h1 : IsL a tbF 36 l m] [h2 : IsL c enL 1 RS m'] : PC Tryz.prog 13 [trA b, a, c] (l.length ≤ 1000000 ∧ RS.length ≤ 1000000 ∧ ∀ r ∈ RS, r.length ≤ 1000000) (.tuple [.lst 36 ((compactT b l RS).1.1.map tbF) .ro, .lst 1 ((compactT b l RS).1.2.map enL) .ro, I .i64 ((compactT b l RS).2 : Nat)]) := ⟨fun hl => ⟨[trA b, .lst 36 (l.map tbF) m, .lst 1 (RS.map enL) m'], ⟨SubV.refl _, h1.sub, h2.sub, trivial⟩, Compact_ok b l RS m m' hl.1 hl.2.1 hl.2.2⟩⟩
instance {a c : AV} {b : Int} {l : List TabR} {RS : List (List En)} {m m' : SM} [h1 : IsL a tbF 36 l m] [h2 : IsL c enL 1 RS m'] : PC Tryz.prog 14 [I .i64 b, a, c] (l.length ≤ 1000000 ∧ RS.length ≤ 1000000 ∧ ∀ r ∈ RS, r.length ≤ 1000000) (.tuple [.lst 36 ((compactT b l RS).1.1.map tbF) .ro, .lst 1 ((compactT b l RS).1.2.map enL) .ro, I .i64 ((compactT b l RS).2 : Nat)]) := ⟨fun hl => ⟨[I .i64 b, .lst 36 (l.map tbF) m, .lst 1 (RS.map enL) m'], ⟨SubV.refl _, h1.sub, h2.sub, trivial⟩, rCompact_ok b l RS m m' hl.1 hl.2.1 hl.2.2⟩⟩
def law17_MoveCompacts.mark : Mark := ⟨fun t => Nat.beq t 46 || Nat.beq t 63 || Nat.beq t 71 || Nat.beq t 77 || Nat.beq t 83 || Nat.beq t 99 || Nat.beq t 139 || Nat.beq t 147 || Nat.beq t 153 || Nat.beq t 156 || Nat.beq t 161 || Nat.beq t 169 || Nat.beq t 183 || Nat.beq t 191 || Nat.beq t 192, fun t => false, fun t => false, fun t => Nat.beq t 98 || Nat.beq t 114 || Nat.beq t 120 || Nat.beq t 130 || Nat.beq t 132, fun t => false⟩
def law17_MoveCompacts.ann : Ann := ⟨fun n => bif Nat.beq n 13 then [0, 3, 4, 5, 6, 15, 16, 17, 18, 20, 21, 22, 24, 25, 26, 27, 28] else bif Nat.beq n 21 then [0, 4, 5, 15, 16, 17, 18, 20, 21, 22, 24, 25, 26, 27, 29] else [], fun n => bif Nat.beq n 26 then some [0, 4, 5, 15, 16, 17, 21, 22, 24, 25, 26, 27] else none, fun n => none⟩
def law17_MoveCompacts.sh (a0 a1 a2 a3 a4 a5 a6 : AV) (σ : Store) (Q : AEnd → Store → Prop) : Prop :=
 Do (aPureC Tryz.prog 7 []) fun t46 =>
 Do (aLit [.val (.int .i64 0)] [(0, 1)] [(0, a0)]) fun t48 =>
 aNewVar 27 [.val (.int .i64 0)] σ fun t16 σ =>
 storeA 1 t16 t48 σ fun u σ_1 =>
 Do (aBuiltin Tryz.prog .len #[24] [a4]) fun t51 =>
 Do (aBuiltin Tryz.prog .min #[3, 3] [t51, (.val (.int .i64 20))]) fun t52 =>
 Do (aSlice .slice 36 a4 none (some t52) none) fun t53 =>
 Do (aBuiltin Tryz.prog .len #[23] [a5]) fun t56 =>
 Do (aBuiltin Tryz.prog .min #[3, 3] [t56, (.val (.int .i64 20))]) fun t57 =>
 Do (aSlice .slice 1 a5 none (some t57) none) fun t58 =>
 Do (loadA true 1 t16 σ_1) fun t60 =>
 Do (aPureC Tryz.prog 8 [t60, a1, a2]) fun t63 =>
 Do (aExt t63 0) fun t64 =>
 Do (aExt t63 1) fun t65 =>
 Do (aExt t63 2) fun t66 =>
 Do (aUn Tryz.prog .not t66) fun t68 =>
 aCond t68
 (Q (.ret (.val (.bool false))) σ_1)
 (Do (aPureC Tryz.prog 9 [t64]) fun t71 =>
 Do (aExt t71 0) fun t72 =>
 Do (aExt t71 1) fun t73 =>
 Do (aExt t71 2) fun t74 =>
 Do (aPureC Tryz.prog 10 [t64]) fun t77 =>
 Do (aExt t77 0) fun t78 =>
 Do (aExt t77 1) fun t79 =>
 Do (aExt t77 2) fun t80 =>
 Do (aPureC Tryz.prog 11 [t72, t78]) fun t83 =>
 aLoop (fun go vs σ_2 =>
 At vs 0 fun s0 => At vs 1 fun s3 => At vs 2 fun s4 => At vs 3 fun s5 => At vs 4 fun s6 => At vs 5 fun s15 => At vs 6 fun s16 => At vs 7 fun s17 => At vs 8 fun s18 => At vs 9 fun s20 => At vs 10 fun s21 => At vs 11 fun s22 => At vs 12 fun s24 => At vs 13 fun s25 => At vs 14 fun s26 => At vs 15 fun s27 => At vs 16 fun s28 => Do (aBuiltin Tryz.prog .len #[22] [s3]) fun t86 =>
 Do (aBin Tryz.prog .lss 3 s28 t86) fun t87 =>
 Do (aGuard t87 true (aIs s28)) fun t89 =>
 Do (aGuard t87 true (aBin Tryz.prog .lss 3 t89 (.val (.int .i64 8)))) fun t90 =>
 Do (aPick t87 t90 (.val (.bool false))) fun t91 =>
 aCond t91
 (Do (aIndexAddr .slice 1 s3 s28) fun t97 =>
 Do (loadF false 1 t97) fun t98 =>
 Do (aPureC Tryz.prog 12 [t98, (.val (.int .i64 20))]) fun t99 =>
 Do (aSlLit (mkE [.val (.slice none 0 0)]) 1 1 [(0, t99)]) fun t100 =>
 aAppend 33 1 24 s27 t100 σ_2 (subK fun t101 σ_3 =>
 Do (aBin Tryz.prog .add 3 s28 (.val (.int .i64 1))) fun t93 =>
 go [s0, s3, s4, s5, s6, s15, s16, s17, s18, s20, s21, s22, s24, s25, s26, t101, t93] σ_3))
 (Do (aUn Tryz.prog .not s26) fun t103 =>
 aCond t103
 (Q (.ret (.val (.bool false))) σ_2)
 (aJoin (fun j =>
 aCond s6
 (aLoop (fun go_1 vs_2 σ_5 =>
 At vs_2 0 fun s0_1 => At vs_2 1 fun s4_1 => At vs_2 2 fun s5_1 => At vs_2 3 fun s15_1 => At vs_2 4 fun s16_1 => At vs_2 5 fun s17_1 => At vs_2 6 fun s18_1 => At vs_2 7 fun s20_1 => At vs_2 8 fun s21_1 => At vs_2 9 fun s22_1 => At vs_2 10 fun s24_1 => At vs_2 11 fun s25_1 => At vs_2 12 fun s26_1 => At vs_2 13 fun s27_1 => At vs_2 14 fun s29 => Do (aBuiltin Tryz.prog .len #[23] [s20_1]) fun t107 =>
 Do (aBin Tryz.prog .lss 3 s29 t107) fun t108 =>
 aCond t108
 (Do (aIndexAddr .slice 1 s20_1 s29) fun t113 =>
 Do (loadF false 1 t113) fun t114 =>
 Do (aBin Tryz.prog .lss 3 t114 (.val (.int .i64 0))) fun t115 =>
 Do (aGuard t115 false (aIs s20_1)) fun t117 =>
 Do (aGuard t115 false (aIs s29)) fun t118 =>
 Do (aGuard t115 false (aIndexAddr .slice 1 t117 t118)) fun t119 =>
 Do (aGuard t115 false (loadF false 1 t119)) fun t120 =>
 Do (aGuard t115 false (aIs s18_1)) fun t121 =>
 Do (aGuard t115 false (aBuiltin Tryz.prog .len #[22] [t121])) fun t122 =>
 Do (aGuard t115 false (aBin Tryz.prog .geq 3 t120 t122)) fun t123 =>
 Do (aPick t115 (.val (.bool true)) t123) fun t124 =>
 aCond t124
 (Q (.ret (.val (.bool false))) σ_5)
 (Do (aIndexAddr .slice 1 s20_1 s29) fun t129 =>
 Do (loadF false 1 t129) fun t130 =>
 Do (aIndexAddr .slice 1 s18_1 t130) fun t131 =>
 Do (loadF false 1 t131) fun t132 =>
 Do (aSlLit (mkE [.val (.slice none 0 0)]) 1 1 [(0, t132)]) fun t133 =>
 aAppend 33 1 24 s27_1 t133 σ_5 (subK fun t134 σ_6 =>
 Do (aBin Tryz.prog .add 3 s29 (.val (.int .i64 1))) fun t110 =>
 go_1 [s0_1, s4_1, s5_1, s15_1, s16_1, s17_1, s18_1, s20_1, s21_1, s22_1, s24_1, s25_1, s26_1, t134, t110] σ_6)))
 (j [s0_1, s4_1, s5_1, s15_1, s16_1, s17_1, s21_1, s22_1, s24_1, s25_1, s26_1, s27_1] σ_5))
 [s0, s4, s5, s15, s16, s17, s18, s20, s21, s22, s24, s25, s26, (.val (.slice none 0 0)), (.val (.int .i64 0))] σ_2)
 (j [s0, s4, s5, s15, s16, s17, s21, s22, s24, s25, s26, s27] σ_2)) fun vs_1 σ_4 =>
 At vs_1 0 fun s0_2 => At vs_1 1 fun s4_2 => At vs_1 2 fun s5_2 => At vs_1 3 fun s15_2 => At vs_1 4 fun s16_2 => At vs_1 5 fun s17_2 => At vs_1 6 fun s21_2 => At vs_1 7 fun s22_2 => At vs_1 8 fun s24_2 => At vs_1 9 fun s25_2 => At vs_1 10 fun s26_2 => At vs_1 11 fun s27_2 => Do (loadA true 1 s16_2 σ_4) fun t136 =>
 Do (aPureC Tryz.prog 13 [t136, s17_2, s27_2]) fun t139 =>
 Do (aExt t139 0) fun t140 =>
 Do (aExt t139 1) fun t141 =>
 Do (aExt t139 2) fun t142 =>
 Do (aPureC Tryz.prog 14 [s0_2, s17_2, s27_2]) fun t147 =>
 Do (aExt t147 0) fun t148 =>
 Do (aExt t147 1) fun t149 =>
 Do (aExt t147 2) fun t150 =>
 Do (aPureC Tryz.prog 15 [t140, t148]) fun t153 =>
 Do (aPureC Tryz.prog 16 [t141, t149]) fun t156 =>
 Do (loadA true 1 s16_2 σ_4) fun t158 =>
 Do (aPureC Tryz.prog 13 [t158, s4_2, s27_2]) fun t161 =>
 Do (aExt t161 0) fun t162 =>
 Do (aExt t161 1) fun t163 =>
 Do (aExt t161 2) fun t164 =>
 Do (aPureC Tryz.prog 14 [s0_2, s4_2, s27_2]) fun t169 =>
 Do (aExt t169 0) fun t170 =>
 Do (aExt t169 1) fun t171 =>
 Do (aExt t169 2) fun t172 =>
 Do (aBuiltin Tryz.prog .len #[24] [s4_2]) fun t174 =>
 Do (aBin Tryz.prog .quo 3 t174 (.val (.int .i64 2))) fun t175 =>
 Do (aSlice .slice 36 s4_2 none (some t175) none) fun t178 =>
 Do (aSlice .slice 36 s4_2 (some t175) none none) fun t182 =>
 Do (aPureC Tryz.prog 17 [t178, s5_2, t182]) fun t183 =>
 Do (aSlice .slice 36 s4_2 none (some t175) none) fun t186 =>
 Do (aSlice .slice 36 s4_2 (some t175) none none) fun t190 =>
 Do (aPureC Tryz.prog 18 [t186, s5_2, t190]) fun t191 =>
 Do (aPureC Tryz.prog 15 [t183, t191]) fun t192 =>
 Do (aGuard s15_2 true (aIs s26_2)) fun t195 =>
 Do (aPick s15_2 t195 (.val (.bool false))) fun t196 =>
 Do (aGuard t196 true (aIs s21_2)) fun t198 =>
 Do (aGuard t196 true (aIs s24_2)) fun t199 =>
 Do (aGuard t196 true (aBin Tryz.prog .eql 3 t198 t199)) fun t200 =>
 Do (aPick t196 t200 (.val (.bool false))) fun t201 =>
 Do (aGuard t201 true (aIs s22_2)) fun t203 =>
 Do (aGuard t201 true (aIs s25_2)) fun t204 =>
 Do (aGuard t201 true (aBin Tryz.prog .eql 4 t203 t204)) fun t205 =>
 Do (aPick t201 t205 (.val (.bool false))) fun t206 =>
 Do (aGuard t206 true (aIs t153)) fun t208 =>
 Do (aPick t206 t208 (.val (.bool false))) fun t209 =>
 Do (aGuard t209 true (aIs t156)) fun t211 =>
 Do (aPick t209 t211 (.val (.bool false))) fun t212 =>
 Do (aGuard t212 true (aIs t142)) fun t214 =>
 Do (aGuard t212 true (aIs t150)) fun t215 =>
 Do (aGuard t212 true (aBin Tryz.prog .eql 35 t214 t215)) fun t216 =>
 Do (aPick t212 t216 (.val (.bool false))) fun t217 =>
 Do (aGuard t217 true (aIs t164)) fun t219 =>
 Do (aGuard t217 true (aIs t172)) fun t220 =>
 Do (aGuard t217 true (aBin Tryz.prog .eql 35 t219 t220)) fun t221 =>
 Do (aPick t217 t221 (.val (.bool false))) fun t222 =>
 Do (aGuard t222 true (aIs t192)) fun t224 =>
 Do (aPick t222 t224 (.val (.bool false))) fun t225 =>
 Q (.ret t225) σ_4)))
 [a0, a3, t53, t58, a6, t46, t16, t64, t65, t72, t73, t74, t79, t80, t83, (.val (.slice none 0 0)), (.val (.int .i64 0))] σ_1)
theorem law17_MoveCompacts.eq (a0 a1 a2 a3 a4 a5 a6 : AV) (σ : Store) (Q : AEnd → Store → Prop) : vc (semOf Tryz.prog law17_MoveCompacts.mark) Tryz.f3.ntmps law17_MoveCompacts.ann (bodyOf Tryz.f3) (endK [.tmp 14] Q) (argFr [a0, a1, a2, a3, a4, a5, a6]) σ = law17_MoveCompacts.sh a0 a1 a2 a3 a4 a5 a6 σ Q := by kernel_rfl
theorem law17_MoveCompacts.go {a0 a1 a2 a3 a4 a5 a6 : AV} {σ : Store} {Q : AEnd → Store → Prop} (h : law17_MoveCompacts.sh a0 a1 a2 a3 a4 a5 a6 σ Q) : ACalls Tryz.prog 3 [a0, a1, a2, a3, a4, a5, a6] σ Q :=
 acalls_of_eq [.tmp 14] Tryz.func3 (by kernel_rfl) (by kernel_rfl) (by kernel_rfl) (by kernel_rfl) (law17_MoveCompacts.eq a0 a1 a2 a3 a4 a5 a6 σ Q) h
theorem MoveCompacts_at (b : Int) (news : List (List En)) (m : SM) (merges : List Int) (m' : SM) (rows0 : List (List En)) (m1 : SM) (l0 : List TabR) (m2 : SM) (in0 : List Int) (m3 : SM) (ow : Bool) (hn : news.length ≤ 9223372036854775807) (hm : merges.length ≤ 9223372036854775807) (hnl : ∀ r ∈ news, r.length ≤ 9223372036854775807)
    (hr0 : rows0.length ≤ 9223372036854775807) (hr1 : ∀ r ∈ rows0, r.length ≤ 9223372036854775807) (hl0 : l0.length ≤ 9223372036854775807) (hi0 : in0.length ≤ 9223372036854775807) :
    aPure Tryz.prog 3 [I .i64 b, .lst 1 (news.map enL) m, .lst 1 (merges.map it) m', .lst 1 (rows0.map enL) m1, .lst 36 (l0.map tbF) m2, .lst 1 (in0.map it) m3, B ow] (B true) := by
  refine ACalls.fin (law17_MoveCompacts.go ?_)
  unfold law17_MoveCompacts.sh
  have hs := store_all b news merges (min news.length 14) (by omega)
  have htt : (true : Bool) = true := rfl
  have hff : ¬ (false : Bool) = true := by decide
  have iS : ∀ {a c : AV} {m m' : SM} [h1 : IsL a enL 1 news m] [h2 : IsL c it 1 merges m'], PC Tryz.prog 8 [trA b, a, c] True
    (.tuple [.lst 36 ((storeT b news merges (min news.length 14)).1.map tbF) .ro, .lst 1 ((storeT b news merges (min news.length 14)).2.map enL) .ro, B true]) := by
    intro a c m m' h1 h2
    exact ⟨fun _ => ⟨[trA b, .lst 1 (news.map enL) m, .lst 1 (merges.map it) m'], ⟨SubV.refl _, h1.sub, h2.sub, trivial⟩, store_ok b news merges m m' hn hm hnl⟩⟩
  generalize storeT b news merges (min news.length 14) = s at *
  obtain ⟨x, y⟩ := s
  dsimp only at hs iS
  have a1 : (l0.take (min l0.length 20)).length ≤ 20 := by rw [List.length_take]; omega
  have a2 : (in0.take (min in0.length 20)).length ≤ 20 := by rw [List.length_take]; omega
  have hI := Inputs_ok x .ro (by omega)
  have hI2 := rInputs_ok x .ro (by omega)
  obtain ⟨J, to, is, he, hJ, hJl⟩ := inputs_some hs.1.right
  rw [he] at hI hI2
  have iI : PC Tryz.prog 9 [.lst 36 (x.map tbF) .ro] True _ := ⟨fun _ => PC.of hI⟩
  have iI2 : PC Tryz.prog 10 [.lst 36 (x.map tbF) .ro] True _ := ⟨fun _ => PC.of hI2⟩
  have iJ : IsL (.lst 1 (J.map itN) .ro) it 1 (J.map Int.ofNat) .ro := ⟨by rw [← map_itN]; exact SubV.refl _⟩
  have hJ6 : (J.map Int.ofNat).length ≤ 1000000 := by rw [List.length_map]; omega
  have hyl := hs.1.tells.len
  have hyf := tells_len hs.1.tells
  have hJJ : J.map Int.ofNat = J.map Int.ofNat := rfl
  repeat' (with_reducible first|apply Stp.go|refine imp fun _=>?_|refine zq ?_|refine zt ?_|refine zf ?_|refine zg ?_|refine za ?_|refine altF ?_|refine all fun _=>?_|refine both ?_ ?_|refine zu ?_|refine zv ?_|refine cho (fun _=>?_) fun _=>?_|refine zw ?_)
  rename_i bt
  generalize l0.take (min l0.length 20) = L at *
  generalize in0.take (min in0.length 20) = K at *
  rw [decide_eq_true hJJ]
  have hcl : ∀ r : List En, ((r.take 20).map (cutE 130 200)).length ≤ 20 := fun r => by rw [List.length_map, List.length_take]; omega
  refine loopI (β := Nat × Value) (fun x => x.1 ≤ rows0.length ∧ x.1 ≤ 8)
    (fun q => [I .i64 b, .lst 1 (rows0.map enL) m1, .lst 36 (L.map tbF) .ro, .lst 1 (K.map it) .ro, B ow, B true, ptrAt bt 0, .lst 36 (x.map tbF) .ro, .lst 1 (y.map enL) .ro, .lst 1 (J.map itN) .ro, I .i64 to, B is, I .i64 to, B is, B true, .own q.2 ((rows0.take q.1).map fun r => (r.take 20).map (cutE 130 200)).length, I .i64 (q.1 : Nat)])
    (fun q => [.row q.2 EsT 1 (((rows0.take q.1).map fun r => (r.take 20).map (cutE 130 200)).map enL) 0, .var bt 27 [it b]]) (fun q => 8 - q.1) (0, .slice none 0 0) ⟨Nat.zero_le _, Nat.zero_le _⟩
    (Sub.nil_own EsT (sz := 1) (by decide) _ [_, _, _, _, _, _, _, _, _, _, _, _, _, _, _] [_]) ?_
  rintro ⟨i, v⟩ ⟨p1, p2⟩
  dsimp only at p1 p2 ⊢
  have hcn : ((rows0.take i).map fun r => (r.take 20).map (cutE 130 200)).length = i := by rw [List.length_map, List.length_take]; omega
  by_cases hi : i < rows0.length ∧ i < 8
  · obtain ⟨hi1, hi2⟩ := hi
    have htk := congrArg (List.map fun r => (r.take 20).map (cutE 130 200)) (take_succ_d hi1)
    rw [List.map_append] at htk
    have hrl := hr1 _ (getD_memT hi1)
    repeat' (with_reducible first|apply Stp.go|refine imp fun _=>?_|refine zq ?_|refine zt ?_|refine zf ?_|refine zg ?_|refine za ?_|refine altF ?_|refine all fun _=>?_|refine both ?_ ?_|refine zu ?_|refine zv ?_|refine cho (fun _=>?_) fun _=>?_|refine zw ?_)
    rename_i w
    exact again (i + 1, w) (by dsimp only; omega) ⟨by dsimp only; omega, by dsimp only; omega⟩ (by dsimp only; rw [htk]; exact Sub.refl _ _)
  · have hcut : ∀ r ∈ (rows0.take i).map (fun r => (r.take 20).map (cutE 130 200)), r.length ≤ 64 := fun r hr => by
      obtain ⟨r', _, rfl⟩ := List.mem_map.1 hr
      have := hcl r'
      omega
    have hcut2 : ((rows0.take i).map fun r => (r.take 20).map (cutE 130 200)).length ≤ 20 := by omega
    generalize (rows0.take i).map (fun r => (r.take 20).map (cutE 130 200)) = C at *
    have hyb : ∀ j, j < J.length → (y.getD (J.getD j default) default).length ≤ 64 := fun j hj => (fit_right (hyf _ (getD_memT (by have := hJ j hj; omega)))).1
    have c1 := fun c => compactT_len b x c
    have c2 := fun c => compactT_len b L c
    have hLh : (L.take (L.length / 2)).length ≤ 20 ∧ (L.drop (L.length / 2)).length ≤ 20 := by rw [List.length_take, List.length_drop]; omega
    have hpT := placeT_len (L.take (L.length / 2)) K (L.drop (L.length / 2))
    have hcase : (i < rows0.length ∧ ¬ i < 8) ∨ ¬ i < rows0.length := by omega
    rcases hcase with ⟨hi1, hi2⟩ | hi1
    all_goals
      repeat' (with_reducible first|apply Stp.go|refine imp fun _=>?_|refine zq ?_|refine zt ?_|refine zf ?_|refine zg ?_|refine za ?_|refine altF ?_|refine all fun _=>?_|refine both ?_ ?_|refine zu ?_|refine zv ?_|refine cho (fun _=>?_) fun _=>?_|refine zw ?_)
      refine joinI (β := List (List En)) (fun c => c.length ≤ 20 ∧ ∀ r ∈ c, r.length ≤ 64) (fun c => [I .i64 b, .lst 36 (L.map tbF) .ro, .lst 1 (K.map it) .ro, B true, ptrAt bt 0, .lst 36 (x.map tbF) .ro, I .i64 to, B is, I .i64 to, B is, B true, .lst 1 (c.map enL) .ro])
        (fun _ => [.var bt 27 [it b]]) ?_ ?_
      · cases ow with
        | false =>
          repeat' (with_reducible first|apply Stp.go|refine imp fun _=>?_|refine zq ?_|refine zt ?_|refine zf ?_|refine zg ?_|refine za ?_|refine altF ?_|refine all fun _=>?_|refine both ?_ ?_|refine zu ?_|refine zv ?_|refine cho (fun _=>?_) fun _=>?_|refine zw ?_)
          exact meet C ⟨hcut2, hcut⟩ (Sub.cons_same _ (Sub.cons_same _ (Sub.cons_same _ (Sub.cons_same _ (Sub.cons_same _ (Sub.cons_same _ (Sub.cons_same _ (Sub.cons_same _ (Sub.cons_same _ (Sub.cons_same _ (Sub.cons_same _ (Sub.cons_own (σ1 := []) (Sub.refl _ _)))))))))))))
        | true =>
          repeat' (with_reducible first|apply Stp.go|refine imp fun _=>?_|refine zq ?_|refine zt ?_|refine zf ?_|refine zg ?_|refine za ?_|refine altF ?_|refine all fun _=>?_|refine both ?_ ?_|refine zu ?_|refine zv ?_|refine cho (fun _=>?_) fun _=>?_|refine zw ?_)
          refine loopI (β := Nat × Value) (fun q => q.1 ≤ J.length)
            (fun q => [I .i64 b, .lst 36 (L.map tbF) .ro, .lst 1 (K.map it) .ro, B true, ptrAt bt 0, .lst 36 (x.map tbF) .ro, .lst 1 (y.map enL) .ro, .lst 1 (J.map itN) .ro, I .i64 to, B is, I .i64 to, B is, B true, .own q.2 ((J.take q.1).map fun i => y.getD i default).length, I .i64 (q.1 : Nat)])
            (fun q => [.row q.2 EsT 1 (((J.take q.1).map fun i => y.getD i default).map enL) 0, .var bt 27 [it b]]) (fun q => J.length - q.1) (0, .slice none 0 0) (Nat.zero_le _) ?_ ?_
          · refine (Sub.drop_ (List.sublist_cons_self _ _) _).trans (Sub.nil_own EsT (sz := 1) (by decide) _ [_, _, _, _, _, _, _, _, _, _, _, _, _] [_])
          rintro ⟨j, w⟩ q1
          dsimp only at q1 ⊢
          by_cases hj : j < J.length
          · have hx := hJ j hj
            have htk := congrArg (List.map fun i => y.getD i default) (take_succ_d hj)
            rw [List.map_append] at htk
            have hln : ((J.take j).map fun i => y.getD i default).length ≤ 1000 := by rw [List.length_map, List.length_take]; omega
            repeat' (with_reducible first|apply Stp.go|refine imp fun _=>?_|refine zq ?_|refine zt ?_|refine zf ?_|refine zg ?_|refine za ?_|refine altF ?_|refine all fun _=>?_|refine both ?_ ?_|refine zu ?_|refine zv ?_|refine cho (fun _=>?_) fun _=>?_|refine zw ?_)
            rename_i w2
            exact again (j + 1, w2) (by dsimp only; omega) (by dsimp only; omega) (by dsimp only; rw [htk]; exact Sub.refl _ _)
          · have ej : j = J.length := by omega
            subst ej
            rw [List.take_length]
            repeat' (with_reducible first|apply Stp.go|refine imp fun _=>?_|refine zq ?_|refine zt ?_|refine zf ?_|refine zg ?_|refine za ?_|refine altF ?_|refine all fun _=>?_|refine both ?_ ?_|refine zu ?_|refine zv ?_|refine cho (fun _=>?_) fun _=>?_|refine zw ?_)
            refine meet (J.map fun i => y.getD i default) ⟨by rw [List.length_map]; omega, fun r hr => ?_⟩ (Sub.cons_same _ (Sub.cons_same _ (Sub.cons_same _ (Sub.cons_same _ (Sub.cons_same _ (Sub.cons_same _ (Sub.cons_same _ (Sub.cons_same _ (Sub.cons_same _ (Sub.cons_same _ (Sub.cons_same _ (Sub.cons_own (σ1 := []) (Sub.refl _ _)))))))))))))
            obtain ⟨i, hi, rfl⟩ := List.mem_map.1 hr
            obtain ⟨j, hj, rfl⟩ := List.getElem_of_mem hi
            have := hyb j hj
            rwa [List.getD_eq_getElem?_getD (l := J), List.getElem?_eq_getElem hj] at this
      · rintro c ⟨hc1, hc2⟩
        obtain ⟨e1, e2, e3⟩ := c1 c
        obtain ⟨e4, e5, e6⟩ := c2 c
        have hc3 : ∀ r ∈ c, r.length ≤ 1000000 := fun r hr => by have := hc2 r hr; omega
        have n1 : x.length ≤ 1000000 ∧ c.length ≤ 1000000 ∧ ∀ r ∈ c, r.length ≤ 1000000 := ⟨by omega, by omega, hc3⟩
        have n2 : L.length ≤ 1000000 ∧ c.length ≤ 1000000 ∧ ∀ r ∈ c, r.length ≤ 1000000 := ⟨by omega, by omega, hc3⟩
        have n3 : (compactT b x c).1.2.length ≤ 1000000 ∧ ∀ r ∈ (compactT b x c).1.2, r.length ≤ 1000000 := ⟨by omega, fun r hr => by have := e3 r hr; omega⟩
        have f1 : (compactT b x c).1.1 = (compactT b x c).1.1 := rfl
        have f2 : (compactT b x c).1.2 = (compactT b x c).1.2 := rfl
        have f3 : (compactT b x c).2 = (compactT b x c).2 := rfl
        have f4 : (compactT b L c).2 = (compactT b L c).2 := rfl
        have f5 : to = to := rfl
        have f6 : is = is := rfl
        repeat' (with_reducible first|apply Stp.go|refine imp fun _=>?_|refine zq ?_|refine zt ?_|refine zf ?_|refine zg ?_|refine za ?_|refine altF ?_|refine all fun _=>?_|refine both ?_ ?_|refine zu ?_|refine zv ?_|refine cho (fun _=>?_) fun _=>?_|refine zw ?_)
        all_goals first
        | (refine ⟨_, _, _, rfl, Sub.app_nil _, ?_, rfl⟩
           rw [decide_eq_true rfl])
        | (exfalso; contradiction)
        | (exfalso; rename_i h; exact h rfl)
theorem MoveCompacts_ok (b : Int) (news : List (List En)) (m : SM) (merges : List Int) (m' : SM) (rows0 : List (List En)) (m1 : SM) (l0 : List TabR) (m2 : SM) (in0 : List Int) (m3 : SM) (ow : Bool) (hb : (Lit.int .i64 b).wf = true) (hn : (∀ a ∈ news, (∀ e ∈ a, e.key.length ≤ maxLen ∧ e.val.length ≤ maxLen) ∧ a.length ≤ maxLen) ∧ news.length ≤ maxLen) (hm : (∀ n ∈ merges, (Lit.int .i64 n).wf = true) ∧ merges.length ≤ maxLen)
  (hr : (∀ a ∈ rows0, (∀ e ∈ a, e.key.length ≤ maxLen ∧ e.val.length ≤ maxLen) ∧ a.length ≤ maxLen) ∧ rows0.length ≤ maxLen) (hl : (∀ a ∈ l0, okTb a) ∧ l0.length ≤ maxLen) (hi : (∀ n ∈ in0, (Lit.int .i64 n).wf = true) ∧ in0.length ≤ maxLen) :
  aPure Tryz.prog 3 [I .i64 b, .lst 1 (news.map enL) m, .lst 1 (merges.map it) m', .lst 1 (rows0.map enL) m1, .lst 36 (l0.map tbF) m2, .lst 1 (in0.map it) m3, B ow] (B true) :=
 MoveCompacts_at b news m merges m' rows0 m1 l0 m2 in0 m3 ow (by have := hn.2; simpa [maxLen] using this) (by have := hm.2; simpa [maxLen] using this) (fun r hr => by have := (hn.1 r hr).2; simpa [maxLen] using this) (by have := hr.2; simpa [maxLen] using this) (fun r h => by have := (hr.1 r h).2; simpa [maxLen] using this) (by have := hl.2; simpa [maxLen] using this) (by have := hi.2; simpa [maxLen] using this)
end Go.Ab
