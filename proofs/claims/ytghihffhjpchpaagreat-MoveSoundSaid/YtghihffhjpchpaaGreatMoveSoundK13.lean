/- The texts that this claim needs, part 13: a logic over abstract values, its steps, what the functions do. No condition of its own. -/
import Derived.Shelf.SlSortCmp.NoneTotal
import Derived.Test.YtghihffhjpchpaaGreatMoveSoundK12
set_option linter.unusedVariables false
set_option linter.unusedSimpArgs false
namespace Go.Ab
open Go.Proofs
open Go.Proofs Go.Shelf Go.RowKit Go.Lib Go.Sort
theorem isNaN_walk (x : ByteArray) (W : World) : Calls Tryz.prog 139 #[.string x] W fun e w' => e = .returned (.bool false) ∧ w' = W := by
 go_enter Tryz.func139, Tryz.ntmps139
 go_wp2
 go_ret
 exact ⟨rfl, rfl⟩
set_option maxHeartbeats 1000000 in
theorem compare_walk (a b : List UInt8) (W : World) : Calls Tryz.prog 114 #[.string ⟨a.toArray⟩, .string ⟨b.toArray⟩] W fun e w' => e = .returned (.int .i64 (cmpK a b)) ∧ w' = W := by
 have h86 := isNaN_walk
 have hg : ∀ w, (binOp .gtr 9 (.string ⟨a.toArray⟩) (.string ⟨b.toArray⟩)).run Tryz.prog w = .ok (.bool (!(Op.bytesLess a b || decide (a = b)))) w := fun w => by simp [binOp, Op.stringOp, bdec]
 have hl : Op.bytesLess (⟨a.toArray⟩ : ByteArray).toList (⟨b.toArray⟩ : ByteArray).toList = Op.bytesLess a b := by simp
 go_enter Tryz.func114, Tryz.ntmps114
 go_wp2_with (go_at_call 139; refine (h86 _ _).mono ?_; rintro e w' ⟨rfl, rfl⟩)
 all_goals go_ret
 all_goals refine ⟨?_, rfl⟩
 all_goals simp_all [cmpK, lt]
def enc (e : En) : List Value := [.string ⟨e.key.toArray⟩, .string ⟨e.val.toArray⟩, .bool e.del, .int .i64 e.seq]
theorem byKey_walk (x y : En) (W : World) : Calls Tryz.prog 80 #[.agg (enc x).toArray, .agg (enc y).toArray] W fun e w' => e = .returned (.int .i64 (cmpK x.key y.key)) ∧ ∃ q os', w' = grow (W.drewN q) os' := by
 have hcon := fun W' => compare_walk x.key y.key W'
 simp only [enc]
 generalize cmpK x.key y.key = r at hcon ⊢
 go_enter Tryz.func80, Tryz.ntmps80
 go_wp2_with (go_at_call 114; refine (hcon _).mono ?_; rintro e w' ⟨rfl, rfl⟩)
 go_ret
 exact ⟨rfl, 0, _, by rw [alloc_eq_grow, alloc_eq_grow, grow_grow]; rfl⟩
theorem ltOf_key (x y : En) : ltOf (fun x y : En => cmpK x.key y.key) x y = lt x.key y.key := by
 unfold ltOf
 cases h : lt x.key y.key with
 | true => simp [cmpK, h]
 | false => have := (cmpK_neg x.key y.key).2 h; simp; omega
theorem swo_key : SWO (ltOf fun x y : En => cmpK x.key y.key) where
 irrefl x := by rw [ltOf_key, lt_irrefl]
 trans x y z h1 h2 := by rw [ltOf_key] at *; exact lt_trans' h1 h2
 ntrans x y z h1 h2 := by
  rw [ltOf_key] at *
  cases h : lt x.key z.key with
  | false => rfl
  | true => rw [lt_of_ge h1 h] at h2; cases h2
theorem flat_enc (l : List En) : flat (l.map En.av) = (l.flatMap enc).map .val := by
 induction l with
 | nil => rfl
 | cons e l ih =>
  simp only [List.map_cons, List.flatMap_cons, List.map_append, ← ih]
  rfl
theorem flatK_enc (d : Array En) : (flatK enc 4 d).toList = d.toList.flatMap enc := by
 obtain ⟨l, rfl⟩ : ∃ l, d = List.toArray l := ⟨d.toList, by simp⟩
 have hf : ∀ l : List En, (l.flatMap enc).length = l.length * 4 := fun l => by
  induction l with
  | nil => rfl
  | cons e l ih => simp only [List.flatMap_cons, List.length_append, ih, List.length_cons, enc, List.length_nil]; omega
 have hg : ∀ (l : List En) (t : Nat), t < l.length * 4 → (l.flatMap enc)[t]? = some ((enc (l.getD (t / 4) default))[t % 4]!) := by
  intro l
  induction l with
  | nil => intro t ht; simp at ht
  | cons e l ih =>
   intro t ht
   rcases Nat.lt_or_ge t 4 with h4 | h4
   ·rw [List.flatMap_cons, List.getElem?_append_left (by simpa [enc] using h4)]
    have e1 : t / 4 = 0 := by omega
    have e2 : t % 4 = t := by omega
    rw [e1, e2, List.getD_cons_zero, List.getElem!_eq_getElem?_getD, List.getElem?_eq_getElem (by simpa [enc] using h4)]
    rfl
   ·rw [List.flatMap_cons, List.getElem?_append_right (by simpa [enc] using h4)]
    have e3 : (enc e).length = 4 := rfl
    obtain ⟨u, rfl⟩ : ∃ u, t = u + 4 := ⟨t - 4, by omega⟩
    have e1 : (u + 4) / 4 = u / 4 + 1 := by omega
    have e2 : (u + 4) % 4 = u % 4 := by omega
    rw [e3, Nat.add_sub_cancel, e1, e2, List.getD_cons_succ]
    exact ih u (by simp at ht; omega)
 apply List.ext_getElem?
 intro t
 rcases Nat.lt_or_ge t (l.length * 4) with h | h
 ·rw [show (List.toArray l).toList = l from rfl, hg l t h]
  have hs : t < (flatK enc 4 l.toArray).size := by simpa using h
  have := get_flatK enc 4 l.toArray t (by simpa using h)
  rw [getElem!_pos _ t hs] at this
  rw [Array.getElem?_toList, Array.getElem?_eq_getElem hs, this]
  simp [List.getD_eq_getElem?_getD, Array.getElem!_eq_getD, Array.getD]
  by_cases h4 : t / 4 < l.length <;> simp [h4]
 ·rw [List.getElem?_eq_none (by simpa using h), List.getElem?_eq_none (by rw [hf]; exact h)]
theorem flatMap_enc_length : ∀ l : List En, (l.flatMap enc).length = l.length * 4
 | [] => rfl
 | e :: l => by simp only [List.flatMap_cons, List.length_append, flatMap_enc_length l, List.length_cons, enc, List.length_nil]; omega
theorem enc_one (l : List En) : ∀ v ∈ l.flatMap enc, v.oneCell' = true := by
 intro v hv
 obtain ⟨e, _, h⟩ := List.mem_flatMap.1 hv
 simp only [enc, List.mem_cons, List.not_mem_nil, or_false] at h
 rcases h with rfl | rfl | rfl | rfl <;> rfl
theorem grown_grow (w : World) (os : Array Obj) : w.grownBy (grow w os) none := ⟨rfl, rfl, rfl, by simp, fun k hk _ => heap_grow_old w os hk⟩
theorem body_sort : HasBody Tryz.prog 51 := ⟨Tryz.f51, _, by kernel_rfl, rfl, by kernel_rfl⟩
theorem sort_of (cf : FuncId) (eg : ∀ args w, (callFunc cf args).run Tryz.prog w = .ok (.enter cf args) w) (hcf : ∀ (x y : En) (W : World), Calls Tryz.prog cf #[.agg (enc x).toArray, .agg (enc y).toArray] W fun e w' => e = .returned (.int .i64 (cmpK x.key y.key)) ∧ ∃ q os', w' = grow (W.drewN q) os') (l : List En) (v : Value) (σ1 σ2 : Store) (hlen : l.length < 4611686018427387904) : ACalls Tryz.prog 51 [.own v l.length, .val (.func (.func cf) #[] #[])] (σ1 ++ .row v 50 4 (l.map En.av) 0 :: σ2)
  fun x σ' => ∃ l' : List En, (l'.Perm l ∧ l'.Pairwise fun a b => lt b.key a.key = false) ∧ x = .ret (.tuple []) ∧ σ' = σ1 ++ .row v 50 4 (l'.map En.av) 0 :: σ2 := by
 refine ⟨body_sort, fun R w vs hv hs => ?_⟩
 obtain ⟨hvl, hvr⟩ := hv
 match vs, hvl with
 | [x, y], _ =>
  have hx := (hvr 0 _ x rfl rfl).own_inv.1
  have hy := (hvr 1 _ y rfl rfl).val_inv
  subst hx; subst hy
  obtain ⟨h1, h2, ⟨xs, hown, hxs, hone⟩, hmx, hR⟩ := hs.ents (.row x 50 4 (l.map En.av) 0) (by simp)
  have hxs' : xs = l.flatMap enc := VRs.toVals (by rw [← flat_enc]; exact hxs)
  subst hxs'
  obtain ⟨hlx, hown⟩ := hown.plain (by decide)
  rw [List.length_map] at hlx hown
  rcases hown with ⟨rfl, h0⟩ | ⟨g, cap, cur, rfl, hg0, hg, hnc, hcap, hsz, hcur⟩
  ·have hl0 : l = [] := List.length_eq_zero_iff.1 h0
   subst hl0
   refine (AnyF.slices_SortFunc_none Tryz.sortEn none 0 _ w).mono ?_
   rintro e w' ⟨rfl, rfl⟩
   exact ⟨.ret (.tuple []), R, _, VR.tuple' (VRs.nil R), ⟨[], ⟨List.Perm.refl _, List.Pairwise.nil⟩, rfl, rfl⟩, hs, Ext.refl _ _ _⟩
  ·have hgl : g < w.heap.size := by
    rcases Nat.lt_or_ge g w.heap.size with h | h
    ·exact h
    ·rw [Array.getElem?_eq_none h] at hg; cases hg
   have hfk := flatK_enc l.toArray
   have hH : HoldsK enc 4 w g 0 l.toArray := by
    intro j hj
    have hj' : j < l.length * 4 := by simpa using hj
    have hc : cur.toList[j]? = (l.flatMap enc)[j]? := by
     rw [← hcur, List.getElem?_take, if_pos hj']
    have hc2 : cur[j]? = some ((flatK enc 4 l.toArray)[j]!) := by
     rw [← Array.getElem?_toList, hc, ← hfk, Array.getElem?_toList, getElem!_pos _ j hj, Array.getElem?_eq_getElem hj]
    exact ⟨by simp only [World.cell?, hg, Nat.zero_add]; simpa using hc2, by simp [World.frozen?, hg]⟩
   have hcon := AnyQ.slices_SortFunc Tryz.sortEn 4 Tryz.isAgg50 Tryz.sizeOf50 enc (fun _ => rfl) (fun e u hu => enc_one [e] u (by simpa using hu)) (fun x y => cmpK x.key y.key) swo_key cf #[] g 0 cap l.toArray w eg (fun _ _ _ _ x y => hcf x y _) hH hgl (by simpa using hlen)
   refine hcon.mono ?_
   rintro e w' ⟨rfl, d', n, os, hp, hso, rfl⟩
   obtain ⟨hds, _, hpm⟩ := hp
   have hds : d'.size = l.length := by simpa using hds
   have hperm : d'.toList.Perm l := by
    have h3 := hpm
    simp only [List.size_toArray, ← hds, Array.extract_size] at h3
    rw [hds, show l.length = l.toArray.size from rfl, Array.extract_size] at h3
    exact h3
   have hpw : d'.toList.Pairwise fun a b => lt b.key a.key = false := by
    rw [List.pairwise_iff_getElem]
    intro i j hi hj hij
    have := hso i j (Nat.zero_le _) hij (by simpa [← hds] using hj)
    rw [ltOf_key, getElem!_pos d' j (by simpa using hj), getElem!_pos d' i (by simpa using hi)] at this
    simpa using this
   obtain ⟨cur', hcur'⟩ : ∃ c, c = putCells id 0 (flatK enc 4 d') cur := ⟨_, rfl⟩
   have hmod : ∀ k, (putRowK enc 4 (Go.Sort.ahead w n) g 0 d').heap[k]? = if k = g then some (.cells cur' 50 (0, 0)) else w.heap[k]? := by
    intro k
    show (w.heap.modify g _)[k]? = _
    rw [Array.getElem?_modify]
    by_cases hk : k = g
    ·subst hk
     rw [if_pos rfl, if_pos rfl, hg, hcur']
     rfl
    ·rw [if_neg (fun h => hk h.symm), if_neg hk]
   have htake : cur'.toList.take (l.length * 4) = d'.toList.flatMap enc := by
    rw [← flatK_enc, hcur']
    apply List.ext_getElem?
    intro t
    have hfs : (flatK enc 4 d').size = l.length * 4 := by simp [hds]
    have hcs : l.length * 4 ≤ cur.size := by rw [hsz]; exact Nat.mul_le_mul_right 4 hnc
    rcases Nat.lt_or_ge t (l.length * 4) with h | h
    ·rw [List.getElem?_take, if_pos h, Array.getElem?_toList, Array.getElem?_toList]
     unfold putCells
     rw [Array.getElem?_mapIdx, Array.getElem?_eq_getElem (by omega : t < cur.size), Array.getElem?_eq_getElem (by omega : t < (flatK enc 4 d').size)]
     simp only [Option.map_some, Nat.zero_le, true_and, Nat.zero_add, Nat.sub_zero, id_eq]
     rw [if_pos (by omega), getElem!_pos _ t (by omega)]
    ·rw [List.getElem?_eq_none (by simp; omega), List.getElem?_eq_none (by simp; omega)]
   have hcs' : cur'.size = cap * 4 := by rw [hcur']; simp [putCells, hsz]
   have hE : EntOk R (putRowK enc 4 (Go.Sort.ahead w n) g 0 d') (.row (.slice (some ⟨g, 0, none⟩) l.length cap) 50 4 (d'.toList.map En.av) 0) := by
    refine ⟨h1, fun e he => ?_, ⟨d'.toList.flatMap enc, rowM.of ⟨?_, .inr ⟨g, cap, cur', ?_, hg0, ?_, ?_, hcap, hcs', ?_⟩⟩, ?_, enc_one _⟩, ?_, fun a x ha hb => ?_⟩
    ·obtain ⟨e0, _, rfl⟩ := List.mem_map.1 he
     rfl
    ·rw [flatMap_enc_length]; simp
    ·simp [hds]
    ·rw [hmod, if_pos rfl]
    ·simpa [hds] using hnc
    ·simpa [hds] using htake
    ·rw [flat_enc]; exact VRs.ofVals R _
    ·simpa [hds] using hmx
    ·have := hR a x ha hb
     omega
   have hst := st_change (b := g) (e' := .row (.slice (some ⟨g, 0, none⟩) l.length cap) 50 4 (d'.toList.map En.av) 0) hs rfl rfl (w' := putRowK enc 4 (Go.Sort.ahead w n) g 0 d') rfl rfl rfl (by show (w.heap.modify g _).size = _; simp) (fun k hk => by rw [hmod, if_neg hk]) (fun a x ha hb => by
    have := hR a x ha (by simp [Value.ownBlock, hb])
    omega) hE
   obtain ⟨q1, q2⟩ := hst
   obtain ⟨q3, q4⟩ := st_roNew q1 (grown_grow _ os)
   exact ⟨.ret (.tuple []), _, _, VR.tuple' (VRs.nil _), ⟨d'.toList, ⟨hperm, hpw⟩, rfl, rfl⟩, q3, q2.trans q4⟩
theorem sort_ok (l : List En) (v : Value) (σ1 σ2 : Store) (hlen : l.length < 4611686018427387904) : ACalls Tryz.prog 51 [.own v l.length, .val (.func (.func 80) #[] #[])] (σ1 ++ .row v 50 4 (l.map En.av) 0 :: σ2)
  fun x σ' => ∃ l' : List En, (l'.Perm l ∧ l'.Pairwise fun a b => lt b.key a.key = false) ∧ x = .ret (.tuple []) ∧ σ' = σ1 ++ .row v 50 4 (l'.map En.av) 0 :: σ2 :=
 sort_of _ (enters_of Tryz.func80 (by kernel_rfl) rfl) byKey_walk l v σ1 σ2 hlen
instance sortQ {l : List En} {v : Value} {n : Nat} {σ rest : Store} {put : Ent → Store} [hr : RowAt v σ 50 4 (l.map En.av) 0 put rest] :
  EQ Tryz.prog 51 [.own v n, .val (.func (.func 80) #[] #[])] σ (n = l.length ∧ l.length < 4611686018427387904) (List En) (fun l' => l'.Perm l ∧ l'.Pairwise fun a b => lt b.key a.key = false) (fun _ => .tuple []) (fun l' => put (.row v 50 4 (l'.map En.av) 0)) := ⟨fun ⟨h1, h2⟩ => by
 obtain ⟨σ1, σ2, e, e2, _⟩ := hr.at_
 subst h1; subst e
 simp only [e2]
 exact sort_ok l v σ1 σ2 h2⟩
end Go.Ab

namespace Go.Ab
open Go.Proofs
def entry_Fold.mark : Mark := ⟨fun t => false, fun t => false, fun t => false, fun t => Nat.beq t 17, fun t => Nat.beq t 40⟩
def entry_Fold.ann : Ann := ⟨fun n => bif Nat.beq n 3 then [3, 12, 13, 14] else bif Nat.beq n 11 then [8, 43] else [], fun n => none, fun n => none⟩
def entry_Fold.sh (a0 : AV) (σ : Store) (Q : AEnd → Store → Prop) : Prop :=
 aHook (eMakeMap σ) fun t11 σ =>
 Do (aBuiltin Tryz.prog .len #[33] [a0]) fun t13 =>
 aLoop (fun go vs σ_1 =>
 At vs 0 fun s3 => At vs 1 fun s12 => At vs 2 fun s13 => At vs 3 fun s14 => Do (aBin Tryz.prog .lss 3 s14 s13) fun t15 =>
 aCond t15
 (Do (aIndexAddr .slice 4 s12 s14) fun t16 =>
 Do (loadF true 4 t16) fun t17 =>
 aNewVar 50 [.val (.string ⟨#[]⟩), .val (.string ⟨#[]⟩), .val (.bool false), .val (.int .i64 0)] σ_1 fun t5 σ_2 =>
 storeA 4 t5 t17 σ_2 fun u σ_3 =>
 Do (aFieldAddr 0 1 t5) fun t20 =>
 Do (loadA false 1 t20 σ_3) fun t21 =>
 Do (lookA Tryz.prog 82 true s3 t21 σ_3) fun t22 =>
 Do (aExt t22 0) fun t23 =>
 Do (aExt t22 1) fun t24 =>
 aNewVar 50 [.val (.string ⟨#[]⟩), .val (.string ⟨#[]⟩), .val (.bool false), .val (.int .i64 0)] σ_3 fun t6 σ_4 =>
 storeA 4 t6 t23 σ_4 fun u_1 σ_5 =>
 Do (aUn Tryz.prog .not t24) fun t26 =>
 Do (aGuard t26 false (aFieldAddr 3 1 t5)) fun t28 =>
 Do (aGuard t26 false (loadA false 1 t28 σ_5)) fun t29 =>
 Do (aGuard t26 false (aFieldAddr 3 1 t6)) fun t30 =>
 Do (aGuard t26 false (loadA false 1 t30 σ_5)) fun t31 =>
 Do (aGuard t26 false (aBin Tryz.prog .geq 3 t29 t31)) fun t32 =>
 Do (aPick t26 (.val (.bool true)) t32) fun t33 =>
 aCond t33
 (Do (aFieldAddr 0 1 t5) fun t35 =>
 Do (loadA false 1 t35 σ_5) fun t36 =>
 Do (loadA true 4 t5 σ_5) fun t37 =>
 aHook (eMapUpd Tryz.prog 82 s3 t36 t37 σ_5) fun u_2 σ_6 =>
 Do (aBin Tryz.prog .add 3 s14 (.val (.int .i64 1))) fun t38 =>
 go [s3, s12, s13, t38] σ_6)
 (Do (aBin Tryz.prog .add 3 s14 (.val (.int .i64 1))) fun t38_1 =>
 go [s3, s12, s13, t38_1] σ_5))
 (Do (lenMA Tryz.prog 82 s3 σ_1) fun t40 =>
 aMake 50 [(.string ⟨#[]⟩), (.string ⟨#[]⟩), (.bool false), (.int .i64 0)] 4 48 (.val (.int .i64 0)) t40 σ_1 (subK fun t41 σ_7 =>
 aHook (eRange Tryz.prog 82 s3 σ_7) fun t43 σ_8 =>
 aLoop (fun go_1 vs_1 σ_9 =>
 At vs_1 0 fun s8 => At vs_1 1 fun s43 => aHook (eNext s43 σ_9) fun t44 σ_10 =>
 Do (aExt t44 0) fun t45 =>
 aCond t45
 (Do (entryA s43 σ_10) fun t46 =>
 Do (aExt t46 1) fun t47 =>
 aNewVar 50 [.val (.string ⟨#[]⟩), .val (.string ⟨#[]⟩), .val (.bool false), .val (.int .i64 0)] σ_10 fun t10 σ_11 =>
 storeA 4 t10 t47 σ_11 fun u_3 σ_12 =>
 Do (loadA true 4 t10 σ_12) fun t49 =>
 Do (aSlLit (mkE [.val (.string ⟨#[]⟩), .val (.string ⟨#[]⟩), .val (.bool false), .val (.int .i64 0)]) 4 1 [(0, t49)]) fun t50 =>
 aAppend 50 4 48 s8 t50 σ_12 (subK fun t51 σ_13 =>
 go_1 [t51, s43] σ_13))
 (aCall Tryz.prog 51 [s8, (.val (.func (.func 80) #[] #[]))] σ_10 (fun t53 σ_14 =>
 Q (.ret s8) σ_14) (fun e σ_15 => Q (.pan e) σ_15)))
 [t41, t43] σ_8)))
 [t11, a0, t13, (.val (.int .i64 0))] σ
theorem entry_Fold.eq (a0 : AV) (σ : Store) (Q : AEnd → Store → Prop) : vc (semOf Tryz.prog entry_Fold.mark) Tryz.f45.ntmps entry_Fold.ann (bodyOf Tryz.f45) (endK [.tmp 2] Q) (argFr [a0]) σ = entry_Fold.sh a0 σ Q := by kernel_rfl
theorem entry_Fold.go {a0 : AV} {σ : Store} {Q : AEnd → Store → Prop} (h : entry_Fold.sh a0 σ Q) : ACalls Tryz.prog 45 [a0] σ Q :=
 acalls_of_eq [.tmp 2] Tryz.func45 (by kernel_rfl) (by kernel_rfl) (by kernel_rfl) (by kernel_rfl) (entry_Fold.eq a0 σ Q) h
theorem Fold_ok (l : List En) (m : SM) (hl : l.length ≤ 1000000000) : ACalls Tryz.prog 45 [.lst 4 (l.map En.av) m] [] fun x σ' => ∃ v, x = .ret (.own v (foldE l).length) ∧ σ' = [.row v 50 4 ((foldE l).map En.av) 0] := by
 refine ACalls.fin (entry_Fold.go ?_)
 unfold entry_Fold.sh
 repeat' (with_reducible first|apply Stp.go|refine imp fun _=>?_|refine zq ?_|refine zt ?_|refine zf ?_|refine zg ?_|refine za ?_|refine altF ?_|refine all fun _=>?_|refine both ?_ ?_|(refine hyp ?_ ?_;first|assumption|exact leftT_mem (by assumption))|refine zu ?_|refine zv ?_|refine cho (fun _=>?_) fun _=>?_|refine zw ?_)
 rename_i mb
 refine loopI (β := Nat × List (Nat × List UInt8 × En) × Nat) (fun x => x.1 ≤ l.length ∧ Tbl x.2.1 x.2.2 (foldE (l.take x.1)) ∧ x.2.1.length ≤ x.1) (fun x => [.val (.map (some mb)), .lst 4 (l.map En.av) m, I .i64 (l.length : Nat), I .i64 (x.1 : Nat)])
  (fun x => [.map mb (mkM keyS En.av x.2.1) x.2.2]) (fun x => l.length - x.1) (0, [], 0) ⟨Nat.zero_le _, Tbl.nil, Nat.le_refl _⟩ (Sub.refl _ _) ?_
 rintro ⟨i, L, c⟩ ⟨hi, ht, hL⟩
 dsimp only at hi ht hL ⊢
 have hF := foldE_rises (l.take i)
 by_cases hlt : i < l.length
 ·have hs := foldE_take_succ hlt
  have hset := ht.set hF (e := l.getD i default)
  have hkeep := fun x => ht.keep hF (e := l.getD i default) (x := x)
  have hsl := setT_length (l.getD i default).key (l.getD i default) c L
  rw [← hs] at hset hkeep
  repeat' (with_reducible first|apply Stp.go|refine imp fun _=>?_|refine zq ?_|refine zt ?_|refine zf ?_|refine zg ?_|refine za ?_|refine altF ?_|refine all fun _=>?_|refine both ?_ ?_|(refine hyp ?_ ?_;first|assumption|exact leftT_mem (by assumption))|refine zu ?_|refine zv ?_|refine cho (fun _=>?_) fun _=>?_|refine zw ?_)
  ·rename_i h1 h2
   refine again (i + 1, setT (l.getD i default).key (l.getD i default) c L, bif hasT (l.getD i default).key L then c else c + 1) (by dsimp only; omega) ⟨by dsimp only; omega, hset fun x hx => by rw [hx] at h2; exact h2, by dsimp only; omega⟩ ?_
   exact subS _
  ·rename_i h1 h2
   obtain ⟨x, hx⟩ := Option.isSome_iff_exists.1 h1
   rw [hx] at h2
   refine again (i + 1, L, c) (by dsimp only; omega) ⟨by dsimp only; omega, hkeep x hx h2, by dsimp only; omega⟩ ?_
   exact subS _
  ·rename_i h1
   refine again (i + 1, setT (l.getD i default).key (l.getD i default) c L, bif hasT (l.getD i default).key L then c else c + 1) (by dsimp only; omega) ⟨by dsimp only; omega, hset fun x hx => by rw [hx] at h1; exact absurd rfl h1, by dsimp only; omega⟩ ?_
   exact subS _
 ·have e : l.take i = l := List.take_of_length_le (by omega)
  rw [e] at ht hF
  repeat' (with_reducible first|apply Stp.go|refine imp fun _=>?_|refine zq ?_|refine zt ?_|refine zf ?_|refine zg ?_|refine za ?_|refine altF ?_|refine all fun _=>?_|refine both ?_ ?_|(refine hyp ?_ ?_;first|assumption|exact leftT_mem (by assumption))|refine zu ?_|refine zv ?_|refine cho (fun _=>?_) fun _=>?_|refine zw ?_)
  rename_i v0 it
  refine loopI (β := Value × List En × List Nat) (fun x => (x.2.1 ++ (leftT L x.2.2).map (·.2.2)).Perm (L.map (·.2.2))) (fun x => [.own x.1 x.2.1.length, ptrAt it 0])
   (fun x => [.iter it mb c x.2.2 c, .row x.1 50 4 (x.2.1.map En.av) 0, .map mb (mkM keyS En.av L) c]) (fun x => (leftT L x.2.2).length) (v0, [], []) ?_ (Sub.refl _ _) ?_
  ·dsimp only
   rw [left_nil]
   exact List.Perm.refl _
  ·rintro ⟨v, o, seen⟩ hp
   dsimp only at hp ⊢
   have hol : o.length ≤ L.length := by
    have := hp.length_eq
    simp only [List.length_append, List.length_map] at this
    omega
   repeat' (with_reducible first|apply Stp.go|refine imp fun _=>?_|refine zq ?_|refine zt ?_|refine zf ?_|refine zg ?_|refine za ?_|refine altF ?_|refine all fun _=>?_|refine both ?_ ?_|(refine hyp ?_ ?_;first|assumption|exact leftT_mem (by assumption))|refine zu ?_|refine zv ?_|refine cho (fun _=>?_) fun _=>?_|refine zw ?_)
   ·rename_i h0 o' hq
    rw [h0, List.map_nil, List.append_nil] at hp
    have e1 : o' = foldE l := ht.sorted hF (hq.1.trans hp) hq.2
    have e2 : o.length = (foldE l).length := by rw [← e1]; exact hq.1.length_eq.symm
    subst e1
    exact ⟨_, _, _, rfl, subS _, v, by rw [e2], rfl⟩
   ·rename_i x hx t w
    have hlt := left_take ht.nb hx
    refine again (w, o ++ [x.2.2], seen ++ [x.1]) ?_ ?_ ?_
    ·have := hlt.length_eq
     simp only [List.length_cons] at this
     dsimp only
     omega
    ·dsimp only
     rw [List.append_assoc]
     exact ((((hlt.map (·.2.2)).symm).append_left o)).trans hp
    ·exact subS _
theorem Fold_pure (l : List En) (m : SM) (hl : l.length ≤ 1000000000) : aPure Tryz.prog 45 [.lst 4 (l.map En.av) m] (.lst 4 ((foldE l).map En.av) .ro) :=
 ACalls.fin ((Fold_ok l m hl).mono fun x τ ⟨v, e1, e2⟩ => ⟨_, _, _, e1, by rw [e2]; exact retOwn (Sub.refl _ _), rfl, rfl⟩)
instance {a : AV} {l : List En} {m : SM} [h : IsL a En.av 4 l m] : PC Tryz.prog 45 [a] (l.length ≤ 1000000000) (.lst 4 ((foldE l).map En.av) .ro) := ⟨fun hl => ⟨[.lst 4 (l.map En.av) m], ⟨h.sub, trivial⟩, Fold_pure l m hl⟩⟩
end Go.Ab

namespace Go.Ab
open Go.Proofs
def fit17 (k : Nat) (l : List En) : List En := ((foldE ((l.take 30).map (cutE 130 200))).filter right).take k
theorem fit17_fit {k : Nat} {l : List En} (hk : k ≤ 64) (h : 0 < (fit17 k l).length) : fit (fit17 k l) = true := by
 refine fit_of h (by unfold fit17; rw [List.length_take]; omega) (((foldE_rises _).sublist List.filter_sublist).sublist (List.take_sublist _ _)) fun e he => ?_
 have := List.mem_of_mem_take he
 exact (List.mem_filter.1 this).2
theorem fit17_len (k : Nat) (l : List En) : (fit17 k l).length ≤ k := by unfold fit17; rw [List.length_take]; omega
def law17_fit.mark : Mark := ⟨fun t => Nat.beq t 9 || Nat.beq t 10 || Nat.beq t 27, fun t => false, fun t => false, fun t => Nat.beq t 26 || Nat.beq t 32, fun t => false⟩
def law17_fit.ann : Ann := ⟨fun n => bif Nat.beq n 4 then [1, 5, 6, 7] else [], fun n => none, fun n => none⟩
def law17_fit.sh (a0 a1 : AV) (σ : Store) (Q : AEnd → Store → Prop) : Prop :=
 Do (aPureC Tryz.prog 12 [a0, (.val (.int .i64 30))]) fun t9 =>
 Do (aPureC Tryz.prog 45 [t9]) fun t10 =>
 aLoop (fun go vs σ =>
 At vs 0 fun s1 => At vs 1 fun s5 => At vs 2 fun s6 => At vs 3 fun s7 => Do (aBuiltin Tryz.prog .len #[33] [s6]) fun t13 =>
 Do (aBin Tryz.prog .lss 3 s7 t13) fun t14 =>
 Do (aGuard t14 true (aIs s5)) fun t16 =>
 Do (aGuard t14 true (aBuiltin Tryz.prog .len #[33] [t16])) fun t17 =>
 Do (aGuard t14 true (aIs s1)) fun t18 =>
 Do (aGuard t14 true (aBin Tryz.prog .lss 3 t17 t18)) fun t19 =>
 Do (aPick t14 t19 (.val (.bool false))) fun t20 =>
 aCond t20
 (Do (aIndexAddr .slice 4 s6 s7) fun t25 =>
 Do (loadF true 4 t25) fun t26 =>
 Do (aPureC Tryz.prog 46 [t26]) fun t27 =>
 aCond t27
 (Do (aIndexAddr .slice 4 s6 s7) fun t31 =>
 Do (loadF true 4 t31) fun t32 =>
 Do (aSlLit (mkE [.val (.string ⟨#[]⟩), .val (.string ⟨#[]⟩), .val (.bool false), .val (.int .i64 0)]) 4 1 [(0, t32)]) fun t33 =>
 aAppend 50 4 48 s5 t33 σ (subK fun t34 σ_1 =>
 Do (aBin Tryz.prog .add 3 s7 (.val (.int .i64 1))) fun t22 =>
 go [s1, t34, s6, t22] σ_1))
 (Do (aBin Tryz.prog .add 3 s7 (.val (.int .i64 1))) fun t22_1 =>
 go [s1, s5, s6, t22_1] σ))
 (Q (.ret s5) σ))
 [a1, (.val (.slice none 0 0)), t10, (.val (.int .i64 0))] σ
theorem law17_fit.eq (a0 a1 : AV) (σ : Store) (Q : AEnd → Store → Prop) : vc (semOf Tryz.prog law17_fit.mark) Tryz.f19.ntmps law17_fit.ann (bodyOf Tryz.f19) (endK [.tmp 4] Q) (argFr [a0, a1]) σ = law17_fit.sh a0 a1 σ Q := by kernel_rfl
theorem law17_fit.go {a0 a1 : AV} {σ : Store} {Q : AEnd → Store → Prop} (h : law17_fit.sh a0 a1 σ Q) : ACalls Tryz.prog 19 [a0, a1] σ Q :=
 acalls_of_eq [.tmp 4] Tryz.func19 (by kernel_rfl) (by kernel_rfl) (by kernel_rfl) (by kernel_rfl) (law17_fit.eq a0 a1 σ Q) h
theorem fit17_ok (l : List En) (m : SM) (k : Nat) (hl : l.length ≤ 9223372036854775807) (hk : k ≤ 1000) : aPure Tryz.prog 19 [.lst 4 (l.map En.av) m, I .i64 (k : Nat)] (.lst 4 ((fit17 k l).map En.av) .ro) := by
 refine ACalls.fin (law17_fit.go ?_)
 unfold law17_fit.sh
 obtain ⟨L, hL⟩ : ∃ L, L = (l.take 30).map (cutE 130 200) := ⟨_, rfl⟩
 have h70 : L.length ≤ 30 := by rw [hL]; simp; omega
 have hf := foldE_length L
 repeat' (with_reducible first|apply Stp.go|refine imp fun _=>?_|refine zq ?_|refine zt ?_|refine zf ?_|refine zg ?_|refine za ?_|refine altF ?_|refine all fun _=>?_|refine both ?_ ?_|refine zu ?_|refine zv ?_|refine cho (fun _=>?_) fun _=>?_|refine zw ?_)
 unfold fit17
 rw [← hL] at *
 generalize foldE L = F at *
 refine loopI (β := Nat × Value) (fun x => x.1 ≤ F.length ∧ ((F.take x.1).filter right).length ≤ k) (fun x => [I .i64 (k : Nat), .own x.2 ((F.take x.1).filter right).length, .lst 4 (F.map En.av) .ro, I .i64 (x.1 : Nat)]) (fun x => [.row x.2 50 4 (((F.take x.1).filter right).map En.av) 0]) (fun x => F.length - x.1) (0, .slice none 0 0) ⟨Nat.zero_le _, by simp⟩ (Sub.nil_own 50 (by decide) _ [_] [_, _]) ?_
 rintro ⟨i, v⟩ ⟨hi, h64⟩
 dsimp only at hi h64 ⊢
 have hfin : (i = F.length ∨ ((F.take i).filter right).length = k) → (F.filter right).take k = (F.take i).filter right := by
  intro h
  have hs : F.filter right = (F.take i).filter right ++ (F.drop i).filter right := by rw [← List.filter_append, List.take_append_drop]
  rw [hs]
  rcases h with h | h
  ·rw [h, List.drop_length, List.filter_nil, List.append_nil, List.take_of_length_le (by rw [← h]; exact h64)]
  ·rw [List.take_append_of_le_length (by omega), List.take_of_length_le (by omega)]
 by_cases hlt : i < F.length
 ·have hs : (F.take (i + 1)).filter right = (F.take i).filter right ++ (if right (F.getD i default) = true then [F.getD i default] else []) := by
   rw [take_succ_d hlt, List.filter_append]
   generalize F.getD i default = y
   by_cases hy : right y = true <;> simp [hy]
  by_cases hc : ((F.take i).filter right).length < k
  ·repeat' (with_reducible first|apply Stp.go|refine imp fun _=>?_|refine zq ?_|refine zt ?_|refine zf ?_|refine zg ?_|refine za ?_|refine altF ?_|refine all fun _=>?_|refine both ?_ ?_|refine zu ?_|refine zv ?_|refine cho (fun _=>?_) fun _=>?_|refine zw ?_)
   ·rename_i hr w
    rw [if_pos hr] at hs
    refine again (i + 1, w) (by dsimp only; omega) ⟨by dsimp only; omega, ?_⟩ ?_
    ·dsimp only
     rw [hs, List.length_append]
     simp only [List.length_cons, List.length_nil]
     omega
    ·dsimp only
     rw [hs]
     exact Sub.refl _ _
   ·rename_i hr
    rw [if_neg hr, List.append_nil] at hs
    refine again (i + 1, v) (by dsimp only; omega) ⟨by dsimp only; omega, ?_⟩ ?_
    ·dsimp only
     rw [hs]
     exact h64
    ·dsimp only
     rw [hs]
     exact Sub.refl _ _
  ·rw [hfin (.inr (by omega))]
   repeat' (with_reducible first|apply Stp.go|refine imp fun _=>?_|refine zq ?_|refine zt ?_|refine zf ?_|refine zg ?_|refine za ?_|refine altF ?_|refine all fun _=>?_|refine both ?_ ?_|refine zu ?_|refine zv ?_|refine cho (fun _=>?_) fun _=>?_|refine zw ?_)
   exact ⟨_, _, _, rfl, retOwn (Sub.refl _ _), rfl, rfl⟩
 ·rw [hfin (.inl (by omega))]
  repeat' (with_reducible first|apply Stp.go|refine imp fun _=>?_|refine zq ?_|refine zt ?_|refine zf ?_|refine zg ?_|refine za ?_|refine altF ?_|refine all fun _=>?_|refine both ?_ ?_|refine zu ?_|refine zv ?_|refine cho (fun _=>?_) fun _=>?_|refine zw ?_)
  exact ⟨_, _, _, rfl, retOwn (Sub.refl _ _), rfl, rfl⟩
instance {a : AV} {l : List En} {m : SM} {k : Nat} {x : Int} [h : IsL a En.av 4 l m] [hk : NatOf x k] : PC Tryz.prog 19 [a, .val (.int .i64 x)] (l.length ≤ 9223372036854775807 ∧ k ≤ 1000) (.lst 4 ((fit17 k l).map En.av) .ro) := ⟨fun hl => by rw [hk.eq]; exact ⟨[.lst 4 (l.map En.av) m, I .i64 (k : Nat)], ⟨h.sub, SubVs.refl _⟩, fit17_ok l m k hl.1 hl.2⟩⟩
def law17_placed.mark : Mark := ⟨fun t => false, fun t => false, fun t => false, fun t => Nat.beq t 39 || Nat.beq t 104, fun t => false⟩
def law17_placed.ann : Ann := ⟨fun n => bif Nat.beq n 4 then [0, 1, 2, 3, 4, 5, 13, 14, 15] else bif Nat.beq n 8 then [0, 1, 2, 3, 4, 5, 13, 14, 15, 16, 17] else bif Nat.beq n 18 then [3, 4, 5, 13, 14, 18, 19, 20, 21] else [], fun n => none, fun n => none⟩
def law17_placed.sh (a0 a1 a2 a3 a4 a5 : AV) (σ : Store) (Q : AEnd → Store → Prop) : Prop :=
 aLoop (fun go vs σ =>
 At vs 0 fun s0 => At vs 1 fun s1 => At vs 2 fun s2 => At vs 3 fun s3 => At vs 4 fun s4 => At vs 5 fun s5 => At vs 6 fun s13 => At vs 7 fun s14 => At vs 8 fun s15 => Do (aBuiltin Tryz.prog .len #[24] [s0]) fun t24 =>
 Do (aBin Tryz.prog .lss 3 s15 t24) fun t25 =>
 aCond t25
 (aLoop (fun go_1 vs_1 σ_1 =>
 At vs_1 0 fun s0_1 => At vs_1 1 fun s1_1 => At vs_1 2 fun s2_1 => At vs_1 3 fun s3_1 => At vs_1 4 fun s4_1 => At vs_1 5 fun s5_1 => At vs_1 6 fun s13_1 => At vs_1 7 fun s14_1 => At vs_1 8 fun s15_1 => At vs_1 9 fun s16 => At vs_1 10 fun s17 => Do (aBuiltin Tryz.prog .len #[23] [s2_1]) fun t30 =>
 Do (aBin Tryz.prog .lss 3 s17 t30) fun t31 =>
 aCond t31
 (Do (aGuard s16 false (aIs s2_1)) fun t36 =>
 Do (aGuard s16 false (aIs s17)) fun t37 =>
 Do (aGuard s16 false (aIndexAddr .slice 1 t36 t37)) fun t38 =>
 Do (aGuard s16 false (loadF false 1 t38)) fun t39 =>
 Do (aGuard s16 false (aIs s15_1)) fun t40 =>
 Do (aGuard s16 false (aBin Tryz.prog .eql 3 t39 t40)) fun t41 =>
 Do (aPick s16 (.val (.bool true)) t41) fun t42 =>
 Do (aBin Tryz.prog .add 3 s17 (.val (.int .i64 1))) fun t33 =>
 go_1 [s0_1, s1_1, s2_1, s3_1, s4_1, s5_1, s13_1, s14_1, s15_1, t42, t33] σ_1)
 (Do (aUn Tryz.prog .not s16) fun t44 =>
 Do (aGuard t44 true (aIs s15_1)) fun t46 =>
 Do (aGuard t44 true (aIs s1_1)) fun t47 =>
 Do (aGuard t44 true (aBuiltin Tryz.prog .len #[22] [t47])) fun t48 =>
 Do (aGuard t44 true (aBin Tryz.prog .lss 3 t46 t48)) fun t49 =>
 Do (aPick t44 t49 (.val (.bool false))) fun t50 =>
 aCond t50
 (Do (aIndexAddr .slice 1 s1_1 s15_1) fun t54 =>
 Do (loadA false 1 t54 σ_1) fun t55 =>
 Do (aSlLit (mkE [.val (.slice none 0 0)]) 1 1 [(0, t55)]) fun t56 =>
 aAppend 33 1 24 s13_1 t56 σ_1 (subK fun t57 σ_2 =>
 Do (aIndexAddr .slice 36 s0_1 s15_1) fun t61 =>
 Do (loadA true 36 t61 σ_2) fun t62 =>
 Do (aSlLit (mkE [.val (.int .i64 0), .val (.int .i64 0), .val (.int .u8 0), .val (.int .u8 0), .val (.int .u8 0), .val (.int .u8 0), .val (.int .u8 0), .val (.int .u8 0), .val (.int .u8 0), .val (.int .u8 0), .val (.int .u8 0), .val (.int .u8 0), .val (.int .u8 0), .val (.int .u8 0), .val (.int .u8 0), .val (.int .u8 0), .val (.int .u8 0), .val (.int .u8 0), .val (.int .u8 0), .val (.int .u8 0), .val (.int .u8 0), .val (.int .u8 0), .val (.int .u8 0), .val (.int .u8 0), .val (.int .u8 0), .val (.int .u8 0), .val (.int .u8 0), .val (.int .u8 0), .val (.int .u8 0), .val (.int .u8 0), .val (.int .u8 0), .val (.int .u8 0), .val (.int .u8 0), .val (.int .u8 0), .val (.string ⟨#[]⟩), .val (.string ⟨#[]⟩)]) 36 1 [(0, t62)]) fun t63 =>
 aAppend 58 36 80 s14_1 t63 σ_2 (subK fun t64 σ_3 =>
 Do (aBin Tryz.prog .add 3 s15_1 (.val (.int .i64 1))) fun t27 =>
 go [s0_1, s1_1, s2_1, s3_1, s4_1, s5_1, t57, t64, t27] σ_3)))
 (Do (aBin Tryz.prog .add 3 s15_1 (.val (.int .i64 1))) fun t27_1 =>
 go [s0_1, s1_1, s2_1, s3_1, s4_1, s5_1, s13_1, s14_1, t27_1] σ_1)))
 [s0, s1, s2, s3, s4, s5, s13, s14, s15, (.val (.bool false)), (.val (.int .i64 0))] σ)
 (aLoop (fun go_2 vs_2 σ_4 =>
 At vs_2 0 fun s3_2 => At vs_2 1 fun s4_2 => At vs_2 2 fun s5_2 => At vs_2 3 fun s13_2 => At vs_2 4 fun s14_2 => At vs_2 5 fun s18 => At vs_2 6 fun s19 => At vs_2 7 fun s20 => At vs_2 8 fun s21 => Do (aBuiltin Tryz.prog .len #[24] [s5_2]) fun t67 =>
 Do (aBin Tryz.prog .lss 3 s21 t67) fun t68 =>
 aCond t68
 (Do (aBuiltin Tryz.prog .len #[22] [s4_2]) fun t73 =>
 Do (aBin Tryz.prog .lss 3 s20 t73) fun t74 =>
 Do (aGuard t74 true (aIs s5_2)) fun t76 =>
 Do (aGuard t74 true (aIs s21)) fun t77 =>
 Do (aGuard t74 true (aIndexAddr .slice 36 t76 t77)) fun t78 =>
 Do (aGuard t74 true (aFieldAddr 0 1 t78)) fun t79 =>
 Do (aGuard t74 true (loadA false 1 t79 σ_4)) fun t80 =>
 Do (aGuard t74 true (aIs s3_2)) fun t81 =>
 Do (aGuard t74 true (aBin Tryz.prog .eql 3 t80 t81)) fun t82 =>
 Do (aPick t74 t82 (.val (.bool false))) fun t83 =>
 Do (aGuard t83 true (aIs s4_2)) fun t85 =>
 Do (aGuard t83 true (aIs s20)) fun t86 =>
 Do (aGuard t83 true (aIndexAddr .slice 1 t85 t86)) fun t87 =>
 Do (aGuard t83 true (loadA false 1 t87 σ_4)) fun t88 =>
 Do (aGuard t83 true (aBuiltin Tryz.prog .len #[33] [t88])) fun t89 =>
 Do (aGuard t83 true (aBin Tryz.prog .gtr 3 t89 (.val (.int .i64 0)))) fun t90 =>
 Do (aPick t83 t90 (.val (.bool false))) fun t91 =>
 Do (aGuard t91 true (aIs s5_2)) fun t93 =>
 Do (aGuard t91 true (aIs s21)) fun t94 =>
 Do (aGuard t91 true (aIndexAddr .slice 36 t93 t94)) fun t95 =>
 Do (aGuard t91 true (aFieldAddr 34 1 t95)) fun t96 =>
 Do (aGuard t91 true (loadA false 1 t96 σ_4)) fun t97 =>
 Do (aGuard t91 true (aIs s4_2)) fun t98 =>
 Do (aGuard t91 true (aIs s20)) fun t99 =>
 Do (aGuard t91 true (aIndexAddr .slice 1 t98 t99)) fun t100 =>
 Do (aGuard t91 true (loadA false 1 t100 σ_4)) fun t101 =>
 Do (aGuard t91 true (aIndexAddr .slice 4 t101 (.val (.int .i64 0)))) fun t102 =>
 Do (aGuard t91 true (aFieldAddr 0 1 t102)) fun t103 =>
 Do (aGuard t91 true (loadF false 1 t103)) fun t104 =>
 Do (aGuard t91 true (aBin Tryz.prog .eql 9 t97 t104)) fun t105 =>
 Do (aPick t91 t105 (.val (.bool false))) fun t106 =>
 Do (aGuard t106 true (aIs s19)) fun t108 =>
 Do (aGuard t106 true (aIs s14_2)) fun t109 =>
 Do (aGuard t106 true (aBuiltin Tryz.prog .len #[24] [t109])) fun t110 =>
 Do (aGuard t106 true (aBin Tryz.prog .geq 3 t108 t110)) fun t111 =>
 Do (aGuard t106 true (aIs t111)) fun t112 =>
 Do (aGuard t112 false (aIs s5_2)) fun t113 =>
 Do (aGuard t112 false (aIs s21)) fun t114 =>
 Do (aGuard t112 false (aIndexAddr .slice 36 t113 t114)) fun t115 =>
 Do (aGuard t112 false (loadA true 36 t115 σ_4)) fun t116 =>
 Do (aGuard t112 false (aIs s14_2)) fun t117 =>
 Do (aGuard t112 false (aIs s19)) fun t118 =>
 Do (aGuard t112 false (aIndexAddr .slice 36 t117 t118)) fun t119 =>
 Do (aGuard t112 false (loadA true 36 t119 σ_4)) fun t120 =>
 Do (aGuard t112 false (aBin Tryz.prog .neq 58 t116 t120)) fun t121 =>
 Do (aGuard t106 true (aPick t112 (.val (.bool true)) t121)) fun t122 =>
 Do (aPick t106 t122 (.val (.bool false))) fun t123 =>
 aCond t123
 (Do (aIndexAddr .slice 1 s4_2 s20) fun t127 =>
 Do (loadA false 1 t127 σ_4) fun t128 =>
 Do (aSlLit (mkE [.val (.slice none 0 0)]) 1 1 [(0, t128)]) fun t129 =>
 aAppend 33 1 24 s18 t129 σ_4 (subK fun t130 σ_5 =>
 Do (aBin Tryz.prog .add 3 s20 (.val (.int .i64 1))) fun t132 =>
 Do (aBin Tryz.prog .add 3 s21 (.val (.int .i64 1))) fun t70 =>
 go_2 [s3_2, s4_2, s5_2, s13_2, s14_2, t130, s19, t132, t70] σ_5))
 (Do (aBuiltin Tryz.prog .len #[22] [s13_2]) fun t135 =>
 Do (aBin Tryz.prog .lss 3 s19 t135) fun t136 =>
 aCond t136
 (Do (aIndexAddr .slice 1 s13_2 s19) fun t140 =>
 Do (loadA false 1 t140 σ_4) fun t141 =>
 Do (aSlLit (mkE [.val (.slice none 0 0)]) 1 1 [(0, t141)]) fun t142 =>
 aAppend 33 1 24 s18 t142 σ_4 (subK fun t143 σ_6 =>
 Do (aBin Tryz.prog .add 3 s19 (.val (.int .i64 1))) fun t145 =>
 Do (aBin Tryz.prog .add 3 s21 (.val (.int .i64 1))) fun t70_1 =>
 go_2 [s3_2, s4_2, s5_2, s13_2, s14_2, t143, t145, s20, t70_1] σ_6))
 (Do (aBin Tryz.prog .add 3 s21 (.val (.int .i64 1))) fun t70_2 =>
 go_2 [s3_2, s4_2, s5_2, s13_2, s14_2, s18, s19, s20, t70_2] σ_4)))
 (Q (.ret s18) σ_4))
 [s3, s4, s5, s13, s14, (.val (.slice none 0 0)), (.val (.int .i64 0)), (.val (.int .i64 0)), (.val (.int .i64 0))] σ))
 [a0, a1, a2, a3, a4, a5, (.val (.slice none 0 0)), (.val (.slice none 0 0)), (.val (.int .i64 0))] σ
theorem law17_placed.eq (a0 a1 a2 a3 a4 a5 : AV) (σ : Store) (Q : AEnd → Store → Prop) : vc (semOf Tryz.prog law17_placed.mark) Tryz.f55.ntmps law17_placed.ann (bodyOf Tryz.f55) (endK [.tmp 12] Q) (argFr [a0, a1, a2, a3, a4, a5]) σ = law17_placed.sh a0 a1 a2 a3 a4 a5 σ Q := by kernel_rfl
theorem law17_placed.go {a0 a1 a2 a3 a4 a5 : AV} {σ : Store} {Q : AEnd → Store → Prop} (h : law17_placed.sh a0 a1 a2 a3 a4 a5 σ Q) : ACalls Tryz.prog 55 [a0, a1, a2, a3, a4, a5] σ Q :=
 acalls_of_eq [.tmp 12] Tryz.func55 (by kernel_rfl) (by kernel_rfl) (by kernel_rfl) (by kernel_rfl) (law17_placed.eq a0 a1 a2 a3 a4 a5 σ Q) h
theorem stayR_nat (l : List (List En)) (ins : List Int) (k : Nat) : (stayR l ins k).length ≤ k := by
 unfold stayR
 rw [List.length_map]
 exact Nat.le_trans (List.length_filter_le _ _) (by rw [List.length_range]; exact Nat.le_refl _)
instance lenEn {P : Program} {t : TypeId} {l : List En} {K : AV → Prop} [h : SlT P t] : Stp (Do (aBuiltin P .len #[t] [enL l]) K) (K (.val (.int .i64 ((l.length : Nat) : Int)))) :=
 inferInstanceAs (Stp (Do (aBuiltin P .len #[t] [.lst 4 (l.map En.av) .ro]) K) _)
instance ixEn {l : List En} {K : AV → Prop} {x : Int} {b : Nat} {kk : IntKind} [h : NatOf x b] : Stp (Do (aIndexAddr .slice 4 (enL l) (.val (.int kk x))) K) (Need (b < l.length) (K (.rptr (En.cs (l.getD b default))))) :=
 inferInstanceAs (Stp (Do (aIndexAddr .slice 4 (.lst 4 (l.map En.av) .ro) (.val (.int kk x))) K) _)
theorem drop_getD {α : Type} [Inhabited α] (l : List α) (i : Nat) : (l.drop i).getD 0 default = l.getD i default := by
 simp [List.getD_eq_getElem?_getD, List.getElem?_drop]
theorem isPart_iff {to : Int} {x : TabR} {T : List TabR} {P : List (List En)} {a b : Nat} : isPart to x (T.drop a) (P.drop b) = true ↔ b < P.length ∧ x.lev = to ∧ 0 < (P.getD b default).length ∧ x.fst = ((P.getD b default).getD 0 default).key ∧ (T.length ≤ a ∨ ¬ x = T.getD a default) := by
 unfold isPart
 rw [drop_getD, drop_getD]
 simp only [Bool.and_eq_true, Bool.or_eq_true, decide_eq_true_eq, Bool.not_eq_true', decide_eq_false_iff_not, List.length_drop]
 constructor
 ·rintro ⟨h1, h2, h3, h4, h5⟩
  exact ⟨by omega, h2, h3, h4, h5.imp (by omega) id⟩
 ·rintro ⟨h1, h2, h3, h4, h5⟩
  exact ⟨by omega, h2, h3, h4, h5.imp (by omega) id⟩
theorem placed_ok (l : List TabR) (rows : List (List En)) (J : List Int) (to : Nat) (P : List (List En)) (nx : List TabR) (hr : rows.length = l.length) (hl : l.length ≤ 100000) (hi : J.length ≤ 100000) (hP : P.length ≤ 100000) (hn : nx.length ≤ 100000) (hPl : ∀ p ∈ P, p.length ≤ 100000) :
    aPure Tryz.prog 55 [.lst 36 (l.map tbF) .ro, .lst 1 (rows.map enL) .ro, .lst 1 (J.map it) .ro, I .i64 (to : Nat), .lst 1 (P.map enL) .ro, .lst 36 (nx.map tbF) .ro]
      (.lst 1 ((placedF (to : Nat) nx (stayT l J l.length) (stayR rows J l.length) P).map enL) .ro) := by
  refine ACalls.fin (law17_placed.go ?_)
  unfold law17_placed.sh
  repeat' (with_reducible first|apply Stp.go|refine imp fun _=>?_|refine zq ?_|refine zt ?_|refine zf ?_|refine zg ?_|refine za ?_|refine altF ?_|refine all fun _=>?_|refine both ?_ ?_|refine zu ?_|refine zv ?_|refine cho (fun _=>?_) fun _=>?_|refine zw ?_)
  refine loopI (β := Nat × Value × Value) (fun x => x.1 ≤ l.length)
    (fun x => [.lst 36 (l.map tbF) .ro, .lst 1 (rows.map enL) .ro, .lst 1 (J.map it) .ro, I .i64 (to : Nat), .lst 1 (P.map enL) .ro, .lst 36 (nx.map tbF) .ro, .own x.2.1 (stayR rows J x.1).length, .own x.2.2 (stayT l J x.1).length, I .i64 (x.1 : Nat)])
    (fun x => [.row x.2.2 TbE 36 ((stayT l J x.1).map tbF) 0, .row x.2.1 EsT 1 ((stayR rows J x.1).map enL) 0]) (fun x => l.length - x.1) (0, .slice none 0 0, .slice none 0 0) (Nat.zero_le _)
    ((Sub.nil_own EsT (sz := 1) (by decide) _ [_, _, _, _, _, _] [_, _]).trans (Sub.nil_own TbE (sz := 36) (by decide) _ [_, _, _, _, _, _, _] [_])) ?_
  rintro ⟨i, v, w⟩ h1
  dsimp only at h1 ⊢
  have hsi := stayT_len l J i
  have hri := stayR_nat rows J i
  by_cases hlt : i < l.length
  · have hs := stayT_succ l J i
    have hs2 := stayR_succ rows J i
    repeat' (with_reducible first|apply Stp.go|refine imp fun _=>?_|refine zq ?_|refine zt ?_|refine zf ?_|refine zg ?_|refine za ?_|refine altF ?_|refine all fun _=>?_|refine both ?_ ?_|refine zu ?_|refine zv ?_|refine cho (fun _=>?_) fun _=>?_|refine zw ?_)
    refine loopI (β := Nat) (fun k => k ≤ J.length)
      (fun k => [.lst 36 (l.map tbF) .ro, .lst 1 (rows.map enL) .ro, .lst 1 (J.map it) .ro, I .i64 (to : Nat), .lst 1 (P.map enL) .ro, .lst 36 (nx.map tbF) .ro, .own v (stayR rows J i).length, .own w (stayT l J i).length, I .i64 (i : Nat), B (decide ((i : Int) ∈ J.take k)), I .i64 (k : Nat)])
      (fun _ => [.row w TbE 36 ((stayT l J i).map tbF) 0, .row v EsT 1 ((stayR rows J i).map enL) 0]) (fun k => J.length - k) 0 (Nat.zero_le _) (Sub.refl _ _) ?_
    intro k hk
    by_cases hkl : k < J.length
    · have hst : (i : Int) ∈ J.take (k + 1) ↔ ((i : Int) ∈ J.take k ∨ J.getD k default = i) := by
        rw [take_succ_d hkl, List.mem_append, List.mem_singleton]
        exact or_congr Iff.rfl eq_comm
      by_cases hg : (i : Int) ∈ J.take k
      · rw [decide_eq_true hg]
        repeat' (with_reducible first|apply Stp.go|refine imp fun _=>?_|refine zq ?_|refine zt ?_|refine zf ?_|refine zg ?_|refine za ?_|refine altF ?_|refine all fun _=>?_|refine both ?_ ?_|refine zu ?_|refine zv ?_|refine cho (fun _=>?_) fun _=>?_|refine zw ?_)
        exact again (k + 1) (by omega) (by omega) (by rw [decide_eq_true (hst.2 (.inl hg))]; exact Sub.refl _ _)
      · rw [decide_eq_false hg]
        have hff : ¬ (false : Bool) = true := by decide
        have he : decide ((i : Int) ∈ J.take (k + 1)) = decide (J.getD k default = (i : Int)) := by
          rw [Bool.eq_iff_iff, decide_eq_true_eq, decide_eq_true_eq, hst]
          exact ⟨fun h => h.resolve_left hg, .inr⟩
        repeat' (with_reducible first|apply Stp.go|refine imp fun _=>?_|refine zq ?_|refine zt ?_|refine zf ?_|refine zg ?_|refine za ?_|refine altF ?_|refine all fun _=>?_|refine both ?_ ?_|refine zu ?_|refine zv ?_|refine cho (fun _=>?_) fun _=>?_|refine zw ?_)
        exact again (k + 1) (by omega) (by omega) (by rw [he]; exact Sub.refl _ _)
    · have ek : k = J.length := by omega
      subst ek
      rw [List.take_length]
      by_cases hc : (i : Int) ∈ J
      · rw [decide_eq_true hc]
        rw [if_pos hc, List.append_nil] at hs hs2
        have htt : (true : Bool) = true := rfl
        repeat' (with_reducible first|apply Stp.go|refine imp fun _=>?_|refine zq ?_|refine zt ?_|refine zf ?_|refine zg ?_|refine za ?_|refine altF ?_|refine all fun _=>?_|refine both ?_ ?_|refine zu ?_|refine zv ?_|refine cho (fun _=>?_) fun _=>?_|refine zw ?_)
        exact again (i + 1, v, w) (by dsimp only; omega) (by dsimp only; omega) (by dsimp only; rw [hs, hs2]; exact Sub.refl _ _)
      · rw [decide_eq_false hc]
        rw [if_neg hc] at hs hs2
        have hff : ¬ (false : Bool) = true := by decide
        repeat' (with_reducible first|apply Stp.go|refine imp fun _=>?_|refine zq ?_|refine zt ?_|refine zf ?_|refine zg ?_|refine za ?_|refine altF ?_|refine all fun _=>?_|refine both ?_ ?_|refine zu ?_|refine zv ?_|refine cho (fun _=>?_) fun _=>?_|refine zw ?_)
        rename_i v2 w2
        exact again (i + 1, v2, w2) (by dsimp only; omega) (by dsimp only; omega) (by dsimp only; rw [hs, hs2]; exact Sub.refl _ _)
  · have e : i = l.length := by omega
    subst e
    have hsr := stayR_len l rows J l.length
    generalize stayT l J l.length = T at *
    generalize stayR rows J l.length = S at *
    repeat' (with_reducible first|apply Stp.go|refine imp fun _=>?_|refine zq ?_|refine zt ?_|refine zf ?_|refine zg ?_|refine za ?_|refine altF ?_|refine all fun _=>?_|refine both ?_ ?_|refine zu ?_|refine zv ?_|refine cho (fun _=>?_) fun _=>?_|refine zw ?_)
    refine loopI (β := Nat × Nat × Nat × Value × List (List En)) (fun x => x.1 ≤ nx.length ∧ x.2.1 ≤ T.length ∧ x.2.2.1 ≤ P.length ∧ x.2.2.2.2.length ≤ x.1 ∧ x.2.2.2.2 ++ placedF (to : Nat) (nx.drop x.1) (T.drop x.2.1) (S.drop x.2.1) (P.drop x.2.2.1) = placedF (to : Nat) nx T S P)
      (fun x => [I .i64 (to : Nat), .lst 1 (P.map enL) .ro, .lst 36 (nx.map tbF) .ro, .own v S.length, .own w T.length, .own x.2.2.2.1 x.2.2.2.2.length, I .i64 (x.2.1 : Nat), I .i64 (x.2.2.1 : Nat), I .i64 (x.1 : Nat)])
      (fun x => [.row x.2.2.2.1 EsT 1 (x.2.2.2.2.map enL) 0, .row w TbE 36 (T.map tbF) 0, .row v EsT 1 (S.map enL) 0]) (fun x => nx.length - x.1) (0, 0, 0, .slice none 0 0, []) ⟨Nat.zero_le _, Nat.zero_le _, Nat.zero_le _, Nat.zero_le _, rfl⟩ (Sub.nil_own EsT (sz := 1) (by decide) _ [_, _, _, _, _] [_, _, _]) ?_
    rintro ⟨i, a, b, u, out⟩ ⟨q1, q2, q3, q4, q5⟩
    dsimp only at q1 q2 q3 q4 q5 ⊢
    by_cases hin : i < nx.length
    · rw [drop_cons_d hin] at q5
      generalize hx : nx.getD i default = x at *
      by_cases hip : isPart (to : Nat) x (T.drop a) (P.drop b) = true
      · have hst : placedF (to : Nat) (x :: nx.drop (i + 1)) (T.drop a) (S.drop a) (P.drop b) = P.getD b default :: placedF (to : Nat) (nx.drop (i + 1)) (T.drop a) (S.drop a) (P.drop (b + 1)) := by
          show (if isPart _ _ _ _ = true then _ else _) = _
          rw [if_pos hip, drop_getD, List.drop_drop]
        rw [hst] at q5
        obtain ⟨c1, c2, c3, c4, c5⟩ := isPart_iff.1 hip
        clear hip
        rw [← hx] at c2 c4 c5
        have hfin : ∀ u2 : Value, i + 1 ≤ nx.length ∧ a ≤ T.length ∧ b + 1 ≤ P.length ∧ (out ++ [P.getD b default]).length ≤ i + 1 ∧ (out ++ [P.getD b default]) ++ placedF (to : Nat) (nx.drop (i + 1)) (T.drop a) (S.drop a) (P.drop (b + 1)) = placedF (to : Nat) nx T S P := fun _ =>
          ⟨by omega, q2, by omega, by rw [List.length_append, List.length_singleton]; omega, by rw [List.append_assoc]; exact q5⟩
        by_cases c6 : T.length ≤ a
        · repeat' (with_reducible first|apply Stp.go|refine imp fun _=>?_|refine zq ?_|refine zt ?_|refine zf ?_|refine zg ?_|refine za ?_|refine altF ?_|refine all fun _=>?_|refine both ?_ ?_|refine zu ?_|refine zv ?_|refine cho (fun _=>?_) fun _=>?_|refine zw ?_)
          rename_i u2
          exact again (i + 1, a, b + 1, u2, out ++ [P.getD b default]) (by dsimp only; omega) (hfin u2) (Sub.refl _ _)
        · have c7 := c5.resolve_left c6
          have c8 : ¬ (⟨(nx.getD i default).lev, (nx.getD i default).cnt, ⟨(nx.getD i default).root.val, Len32.len⟩, (nx.getD i default).fst, (nx.getD i default).lst⟩ : TabR) = ⟨(T.getD a default).lev, (T.getD a default).cnt, ⟨(T.getD a default).root.val, Len32.len⟩, (T.getD a default).fst, (T.getD a default).lst⟩ := c7
          repeat' (with_reducible first|apply Stp.go|refine imp fun _=>?_|refine zq ?_|refine zt ?_|refine zf ?_|refine zg ?_|refine za ?_|refine altF ?_|refine all fun _=>?_|refine both ?_ ?_|refine zu ?_|refine zv ?_|refine cho (fun _=>?_) fun _=>?_|refine zw ?_)
          rename_i u2
          exact again (i + 1, a, b + 1, u2, out ++ [P.getD b default]) (by dsimp only; omega) (hfin u2) (Sub.refl _ _)
      · have hpa : isPart (to : Nat) x (T.drop a) (P.drop b) = false := Bool.eq_false_iff.2 hip
        rw [isPart_iff] at hip
        rw [← hx] at hip
        by_cases ha : a < S.length
        · have hst : placedF (to : Nat) (x :: nx.drop (i + 1)) (T.drop a) (S.drop a) (P.drop b) = S.getD a default :: placedF (to : Nat) (nx.drop (i + 1)) (T.drop (a + 1)) (S.drop (a + 1)) (P.drop b) := by
            show (if isPart _ _ _ _ = true then _ else if 0 < (S.drop a).length then _ else _) = _
            rw [if_neg (by rw [hpa]; decide), if_pos (by rw [List.length_drop]; omega), drop_getD, List.drop_drop, List.drop_drop]
          rw [hst] at q5
          have hfin : ∀ u2 : Value, i + 1 ≤ nx.length ∧ a + 1 ≤ T.length ∧ b ≤ P.length ∧ (out ++ [S.getD a default]).length ≤ i + 1 ∧ (out ++ [S.getD a default]) ++ placedF (to : Nat) (nx.drop (i + 1)) (T.drop (a + 1)) (S.drop (a + 1)) (P.drop b) = placedF (to : Nat) nx T S P := fun _ =>
            ⟨by omega, by omega, q3, by rw [List.length_append, List.length_singleton]; omega, by rw [List.append_assoc]; exact q5⟩
          repeat' (with_reducible first|apply Stp.go|refine imp fun _=>?_|refine zq ?_|refine zt ?_|refine zf ?_|refine zg ?_|refine za ?_|refine altF ?_|refine all fun _=>?_|refine both ?_ ?_|refine zu ?_|refine zv ?_|refine cho (fun _=>?_) fun _=>?_|refine zw ?_)
          all_goals first
          | (rename_i u2
             exact again (i + 1, a + 1, b, u2, out ++ [S.getD a default]) (by dsimp only; omega) (hfin u2) (Sub.refl _ _))
          | (rename_i g1 g2 g3 g4 g5 _
             exact (hip ⟨g1, g2, g3, g4, .inr g5⟩).elim)
        · have hst : placedF (to : Nat) (x :: nx.drop (i + 1)) (T.drop a) (S.drop a) (P.drop b) = placedF (to : Nat) (nx.drop (i + 1)) (T.drop a) (S.drop a) (P.drop b) := by
            show (if isPart _ _ _ _ = true then _ else if 0 < (S.drop a).length then _ else _) = _
            rw [if_neg (by rw [hpa]; decide), if_neg (by rw [List.length_drop]; omega)]
          rw [hst] at q5
          repeat' (with_reducible first|apply Stp.go|refine imp fun _=>?_|refine zq ?_|refine zt ?_|refine zf ?_|refine zg ?_|refine za ?_|refine altF ?_|refine all fun _=>?_|refine both ?_ ?_|refine zu ?_|refine zv ?_|refine cho (fun _=>?_) fun _=>?_|refine zw ?_)
          all_goals first
          | exact again (i + 1, a, b, u, out) (by dsimp only; omega) ⟨by dsimp only; omega, q2, q3, by dsimp only; omega, q5⟩ (Sub.refl _ _)
          | (rename_i g1 g2 g3 g4 _
             exact (hip ⟨g1, g2, g3, g4, .inl (by omega)⟩).elim)
    · have e : i = nx.length := by omega
      subst e
      rw [List.drop_length] at q5
      have q6 : out = placedF (to : Nat) nx T S P := by rw [← q5]; exact (List.append_nil _).symm
      rw [← q6]
      repeat' (with_reducible first|apply Stp.go|refine imp fun _=>?_|refine zq ?_|refine zt ?_|refine zf ?_|refine zg ?_|refine za ?_|refine altF ?_|refine all fun _=>?_|refine both ?_ ?_|refine zu ?_|refine zv ?_|refine cho (fun _=>?_) fun _=>?_|refine zw ?_)
      exact ⟨_, _, _, rfl, retOwn (Sub.app_nil _), rfl, rfl⟩
instance {a b c e f : AV} {l nx : List TabR} {rows P : List (List En)} {J : List Int} {to : Nat} {x : Int} {m1 m2 m3 m4 m5 : SM} [h1 : IsL a tbF 36 l m1] [h2 : IsL b enL 1 rows m2] [h3 : IsL c it 1 J m3] [h4 : NatOf x to] [h5 : IsL e enL 1 P m4] [h6 : IsL f tbF 36 nx m5] :
  PC Tryz.prog 55 [a, b, c, .val (.int .i64 x), e, f] (rows.length = l.length ∧ l.length ≤ 100000 ∧ J.length ≤ 100000 ∧ P.length ≤ 100000 ∧ nx.length ≤ 100000 ∧ ∀ p ∈ P, p.length ≤ 100000)
   (.lst 1 ((placedF (to : Nat) nx (stayT l J l.length) (stayR rows J l.length) P).map enL) .ro) := ⟨fun hl => by
 rw [h4.eq]
 exact ⟨[.lst 36 (l.map tbF) .ro, .lst 1 (rows.map enL) .ro, .lst 1 (J.map it) .ro, I .i64 (to : Nat), .lst 1 (P.map enL) .ro, .lst 36 (nx.map tbF) .ro],
  ⟨fun R v hv => SubV.ro _ _ _ R v (h1.sub R v hv), fun R v hv => SubV.ro _ _ _ R v (h2.sub R v hv), fun R v hv => SubV.ro _ _ _ R v (h3.sub R v hv), SubV.refl _, fun R v hv => SubV.ro _ _ _ R v (h5.sub R v hv), fun R v hv => SubV.ro _ _ _ R v (h6.sub R v hv), trivial⟩, placed_ok l rows J to P nx hl.1 hl.2.1 hl.2.2.1 hl.2.2.2.1 hl.2.2.2.2.1 hl.2.2.2.2.2⟩⟩
end Go.Ab

namespace Go.Ab
def ref13_least.mark : Mark := ⟨fun t => false, fun t => false, fun t => false, fun t => Nat.beq t 16 || Nat.beq t 26 || Nat.beq t 29 || Nat.beq t 37 || Nat.beq t 40, fun t => false⟩
def ref13_least.ann : Ann := ⟨fun n => bif Nat.beq n 4 then [0, 4, 5, 6] else [], fun n => none, fun n => none⟩
def ref13_Merge.mark : Mark := ⟨fun t => false, fun t => Nat.beq t 11 || Nat.beq t 15, fun t => false, fun t => Nat.beq t 43 || Nat.beq t 58 || Nat.beq t 68, fun t => false⟩
def ref13_Merge.ann : Ann := ⟨fun n => bif Nat.beq n 4 then [1, 5, 6] else bif Nat.beq n 9 then [1, 5, 6, 7, 9, 10] else [], fun n => bif Nat.beq n 14 then some [1, 5, 6, 7, 10] else none, fun n => none⟩
def ref13_Split.mark : Mark := ⟨fun t => false, fun t => Nat.beq t 8 || Nat.beq t 34, fun t => false, fun t => false, fun t => false⟩
def ref13_Split.ann : Ann := ⟨fun n => bif Nat.beq n 3 then [0, 3, 4] else bif Nat.beq n 7 then [0, 3, 4, 5, 6] else [], fun n => bif Nat.beq n 12 then some [0, 3, 4, 5, 6, 7] else none, fun n => none⟩
end Go.Ab

namespace Go.Ab
def ref15_Of.mark : Mark := ⟨fun t => false, fun t => false, fun t => false, fun t => Nat.beq t 17, fun t => false⟩
def ref15_Of.ann : Ann := ⟨fun n => bif Nat.beq n 3 then [0, 1, 5, 6] else [], fun n => none, fun n => none⟩
def ref15_Cap.mark : Mark := ⟨fun t => false, fun t => false, fun t => false, fun t => false, fun t => false⟩
def ref15_Cap.ann : Ann := ⟨fun n => [], fun n => none, fun n => none⟩
instance (n : Bool) : One (bV n) := ⟨rfl⟩
def ref15_Pick.mark : Mark := ⟨fun t => Nat.beq t 19 || Nat.beq t 21, fun t => Nat.beq t 28 || Nat.beq t 88, fun t => false, fun t => Nat.beq t 39 || Nat.beq t 63 || Nat.beq t 71 || Nat.beq t 79 || Nat.beq t 87 || Nat.beq t 104 || Nat.beq t 113 || Nat.beq t 122, fun t => false⟩
def ref15_Pick.ann : Ann := ⟨fun n => bif Nat.beq n 2 then [0, 5] else bif Nat.beq n 11 then [0, 5, 6, 7, 8, 9, 10] else bif Nat.beq n 23 then [0, 5, 6, 7, 9, 12, 13] else [], fun n => bif Nat.beq n 18 then some [0, 5, 6, 7, 8, 9, 10] else none, fun n => none⟩
end Go.Ab

namespace Go.Ab
def ref17_among.mark : Mark := ⟨fun t => false, fun t => false, fun t => false, fun t => Nat.beq t 15, fun t => false⟩
def ref17_among.ann : Ann := ⟨fun n => bif Nat.beq n 2 then [0, 1, 5] else [], fun n => none, fun n => none⟩
def ref17_Inputs.mark : Mark := ⟨fun t => Nat.beq t 7 || Nat.beq t 11, fun t => false, fun t => false, fun t => false, fun t => false⟩
def ref17_Inputs.ann : Ann := ⟨fun n => [], fun n => none, fun n => none⟩
def ref14_SameInts.mark : Mark := ⟨fun t => false, fun t => false, fun t => false, fun t => Nat.beq t 20 || Nat.beq t 24, fun t => false⟩
def ref14_SameInts.ann : Ann := ⟨fun n => bif Nat.beq n 4 then [0, 1, 5] else [], fun n => none, fun n => none⟩
def law17_sameRows.mark : Mark := ⟨fun t => Nat.beq t 26, fun t => false, fun t => false, fun t => Nat.beq t 21 || Nat.beq t 25, fun t => false⟩
def law17_sameRows.ann : Ann := ⟨fun n => bif Nat.beq n 4 then [0, 1, 5] else [], fun n => none, fun n => none⟩
def ref17_Place.mark : Mark := ⟨fun t => Nat.beq t 20, fun t => Nat.beq t 82, fun t => false, fun t => false, fun t => false⟩
def ref17_Place.ann : Ann := ⟨fun n => bif Nat.beq n 3 then [0, 1, 2, 7, 8] else bif Nat.beq n 9 then [2, 7, 10] else bif Nat.beq n 12 then [2, 7, 10, 11] else [], fun n => none, fun n => bif Nat.beq n 14 then some [2, 7, 10] else none⟩
end Go.Ab

namespace Go.Ab
def ref17_Compact.mark : Mark := ⟨fun t => Nat.beq t 22 || Nat.beq t 27 || Nat.beq t 58 || Nat.beq t 77 || Nat.beq t 78 || Nat.beq t 92, fun t => false, fun t => false, fun t => Nat.beq t 50 || Nat.beq t 53 || Nat.beq t 57 || Nat.beq t 69 || Nat.beq t 71 || Nat.beq t 91, fun t => false⟩
def ref17_Compact.ann : Ann := ⟨fun n => bif Nat.beq n 10 then [0, 1, 2, 10, 11, 13] else bif Nat.beq n 18 then [0, 1, 10, 11, 16, 17, 18] else [], fun n => none, fun n => none⟩
end Go.Ab

namespace Go.Ab
open Go.Proofs
theorem lvlT_few {l : List TabR} (h : l.length ≤ 4) : lvlT l = 3 := lvlT_none fun j hj => by
 have h1 := ownP_len l j
 unfold hot
 rw [decide_eq_false_iff_not]
 have h2 : 4 ≤ capT j := by unfold capT; split <;> decide
 omega
def law17_shown.mark : Mark := ⟨fun t => Nat.beq t 15 || Nat.beq t 21 || Nat.beq t 27, fun t => false, fun t => false, fun t => Nat.beq t 38 || Nat.beq t 45, fun t => false⟩
def law17_shown.ann : Ann := ⟨fun n => [], fun n => none, fun n => none⟩
def law17_shown.sh (σ : Store) (Q : AEnd → Store → Prop) : Prop :=
 Do (aLit [.val (.int .i64 0)] [(0, 1)] [(0, (.val (.int .i64 256)))]) fun t10 =>
 aNewVar 27 [.val (.int .i64 0)] σ fun t1 σ =>
 storeA 1 t1 t10 σ fun u σ_1 =>
 Do (loadA true 1 t1 σ_1) fun t12 =>
 Do (aLit [.val (.string ⟨#[]⟩), .val (.string ⟨#[]⟩), .val (.bool false), .val (.int .i64 0)] [(0, 1), (1, 1), (2, 1), (3, 1)] [(0, (.val (.string ⟨#[97]⟩))), (3, (.val (.int .i64 1)))]) fun t13 =>
 Do (aSlLit (mkE [.val (.string ⟨#[]⟩), .val (.string ⟨#[]⟩), .val (.bool false), .val (.int .i64 0)]) 4 1 [(0, t13)]) fun t14 =>
 Do (aPureC Tryz.prog 20 [t12, (.val (.slice none 0 0)), t14]) fun t15 =>
 Do (aExt t15 0) fun t16 =>
 Do (aExt t15 1) fun t17 =>
 Do (loadA true 1 t1 σ_1) fun t19 =>
 Do (aPureC Tryz.prog 13 [t19, t16, (.val (.slice none 0 0))]) fun t21 =>
 Do (aExt t21 0) fun t22 =>
 Do (aExt t21 1) fun t23 =>
 Do (aExt t21 2) fun t24 =>
 Do (aPureC Tryz.prog 9 [t16]) fun t27 =>
 Do (aExt t27 0) fun t28 =>
 Do (aExt t27 1) fun t29 =>
 Do (aExt t27 2) fun t30 =>
 Do (aBuiltin Tryz.prog .len #[24] [t16]) fun t32 =>
 Do (aBin Tryz.prog .eql 3 t32 (.val (.int .i64 1))) fun t33 =>
 Do (aGuard t33 true (aIs t16)) fun t35 =>
 Do (aGuard t33 true (aIndexAddr .slice 36 t35 (.val (.int .i64 0)))) fun t36 =>
 Do (aGuard t33 true (aFieldAddr 0 1 t36)) fun t37 =>
 Do (aGuard t33 true (loadF false 1 t37)) fun t38 =>
 Do (aGuard t33 true (aBin Tryz.prog .eql 3 t38 (.val (.int .i64 0)))) fun t39 =>
 Do (aPick t33 t39 (.val (.bool false))) fun t40 =>
 Do (aGuard t40 true (aIs t16)) fun t42 =>
 Do (aGuard t40 true (aIndexAddr .slice 36 t42 (.val (.int .i64 0)))) fun t43 =>
 Do (aGuard t40 true (aFieldAddr 1 1 t43)) fun t44 =>
 Do (aGuard t40 true (loadF false 1 t44)) fun t45 =>
 Do (aGuard t40 true (aBin Tryz.prog .eql 3 t45 (.val (.int .i64 1)))) fun t46 =>
 Do (aPick t40 t46 (.val (.bool false))) fun t47 =>
 Do (aGuard t47 true (aIs t17)) fun t49 =>
 Do (aGuard t47 true (aBin Tryz.prog .eql 35 t49 (.val (.int .i64 0)))) fun t50 =>
 Do (aPick t47 t50 (.val (.bool false))) fun t51 =>
 Do (aGuard t51 true (aIs t24)) fun t53 =>
 Do (aGuard t51 true (aBin Tryz.prog .eql 35 t53 (.val (.int .i64 5)))) fun t54 =>
 Do (aPick t51 t54 (.val (.bool false))) fun t55 =>
 Do (aGuard t55 true (aIs t30)) fun t57 =>
 Do (aGuard t55 true (aUn Tryz.prog .not t57)) fun t58 =>
 Do (aPick t55 t58 (.val (.bool false))) fun t59 =>
 Q (.ret t59) σ_1
theorem law17_shown.eq (σ : Store) (Q : AEnd → Store → Prop) : vc (semOf Tryz.prog law17_shown.mark) Tryz.f7.ntmps law17_shown.ann (bodyOf Tryz.f7) (endK [.tmp 0] Q) (argFr []) σ = law17_shown.sh  σ Q := by kernel_rfl
theorem law17_shown.go {σ : Store} {Q : AEnd → Store → Prop} (h : law17_shown.sh  σ Q) : ACalls Tryz.prog 7 [] σ Q :=
 acalls_of_eq [.tmp 0] Tryz.func7 (by kernel_rfl) (by kernel_rfl) (by kernel_rfl) (by kernel_rfl) (law17_shown.eq  σ Q) h
theorem shown17_ok : aPure Tryz.prog 7 [] (B true) := by
 refine ACalls.fin (law17_shown.go ?_)
 unfold law17_shown.sh
 have hf : fit [⟨[97], [], false, 1⟩] = true := by decide
 have hF : flushT 256 [] [⟨[97], [], false, 1⟩] = ([newT 256 0 [⟨[97], [], false, 1⟩]], 0) := by
  unfold flushT
  rw [if_pos ⟨by decide, hf⟩]
  rfl
 obtain ⟨N, hN⟩ : ∃ N, N = newT 256 0 [⟨[97], [], false, 1⟩] := ⟨_, rfl⟩
 have n1 : N.lev = 0 := by rw [hN]; rfl
 have n2 : N.cnt = 1 := by rw [hN]; rfl
 have n3 : N.fst = [97] := by rw [hN]; rfl
 have n4 : N.lst = [97] := by rw [hN]; rfl
 rw [← hN] at hF
 clear hN
 have hr : rightT [N] = true := by
  unfold rightT
  rw [Bool.and_eq_true, decide_eq_true_eq, decide_eq_true_eq]
  refine ⟨fun i hi => ?_, by simp⟩
  have : i = 0 := by simpa using hi
  subst this
  unfold okT
  show (mayT N && (decide (0 = 0) || _)) = true
  unfold mayT
  rw [n1, n2, n3, n4]
  rfl
 have hc : lvlT [N] = 3 := lvlT_few (by simp)
 have iF : ∀ {a c : AV} {m m' : SM} [h : IsL a tbF 36 ([] : List TabR) m] [h' : IsL c En.av 4 [⟨[97], [], false, 1⟩] m'], PC Tryz.prog 20 [trA 256, a, c] True (.tuple [.lst 36 ([N].map tbF) .ro, I .i64 (0 : Nat)]) := fun {a c m m'} h h' => ⟨fun _ => by
  have := (inferInstance : PC Tryz.prog 20 [trA 256, a, c] _ _).ct ⟨by decide, by decide⟩
  rw [hF] at this
  exact this⟩
 have iI : PC Tryz.prog 9 [.lst 36 ([N].map tbF) .ro] True (.tuple [.lst 1 (([] : List Int).map it) .ro, I .i64 0, B false]) := ⟨fun _ => PC.of (by have := Inputs_ok [N] .ro (by simp); unfold inputsR pickR at this; rw [if_pos hr, hc, if_neg (by decide)] at this; exact this)⟩
 have hC := Compact_ok 256 [N] [] .ro .nil (by simp) (by simp) (fun r hr => by cases hr)
 unfold compactT at hC
 rw [if_pos hr, hc, if_neg (by decide)] at hC
 have iC : PC Tryz.prog 13 [trA 256, .lst 36 ([N].map tbF) .ro, .val (.slice none 0 0)] True (.tuple [.lst 36 (([] : List TabR).map tbF) .ro, .lst 1 (([] : List (List En)).map enL) .ro, I .i64 ((5 : Nat) : Int)]) := ⟨fun _ => ⟨[trA 256, .lst 36 ([N].map tbF) .ro, .lst 1 (([] : List (List En)).map enL) .nil], ⟨SubV.refl _, SubV.refl _, SubV.nil 1 (by decide), trivial⟩, hC⟩⟩
 repeat' (with_reducible first|apply Stp.go|refine imp fun _=>?_|refine zq ?_|refine zt ?_|refine zf ?_|refine zg ?_|refine za ?_|refine altF ?_|refine all fun _=>?_|refine both ?_ ?_|refine zu ?_|refine zv ?_|refine cho (fun _=>?_) fun _=>?_|refine zw ?_)
 all_goals first
  | exact ⟨_, _, _, rfl, Sub.app_nil _, rfl, rfl⟩
  | (exfalso; simp_all; done)
instance : PC Tryz.prog 7 [] True (B true) := ⟨fun _ => PC.of shown17_ok⟩
end Go.Ab

namespace Go.Ab
open Go.Proofs
theorem compact_store {b : Int} {l : List TabR} {rows : List (List En)} (h : StoreOk b l rows) (hk : lvlT l < 3) : compactT b l (rowsIn l (lvlT l) rows) = ((nextT b l (lvlT l) (rowsIn l (lvlT l) rows), partsT (lvlT l) (rowsIn l (lvlT l) rows)), 0) := by
 have hR := rowsIn_ok (k := lvlT l) h
 obtain ⟨hm, _, _⟩ := (rightT_iff l).1 h.right
 unfold compactT
 rw [if_pos h.right, if_pos hk, if_pos]
 refine ⟨hR.1.symm, ?_⟩
 unfold allOk
 rw [decide_eq_true_eq]
 intro j hj
 exact (okB_iff (hm _ (getD_memT (inK_mem.1 (getD_memT hj)).1))).2 (hR.2 j hj)
def mergedR (b : Int) (l : List TabR) (rows : List (List En)) : AV :=
 if lvlT l < 3 then .tuple [.lst 36 ((mergedT b l rows).1.map tbF) .ro, .lst 1 ((mergedT b l rows).2.map enL) .ro, B true]
 else .tuple [.lst 36 (([] : List TabR).map tbF) .ro, .lst 1 (([] : List (List En)).map enL) .ro, B false]
theorem tells_len {b : Int} : ∀ {l : List TabR} {rows : List (List En)}, Tells b l rows → ∀ r ∈ rows, fit r = true
 | _, _, .nil, r, hr => by cases hr
 | _, _, .cons h h2, r, hr => by
  rcases List.mem_cons.1 hr with rfl | hr
  ·exact h.fit
  ·exact tells_len h2 r hr
def law17_merged.mark : Mark := ⟨fun t => Nat.beq t 19 || Nat.beq t 72, fun t => false, fun t => Nat.beq t 3, fun t => Nat.beq t 34 || Nat.beq t 40 || Nat.beq t 50 || Nat.beq t 52 || Nat.beq t 56, fun t => false⟩
def law17_merged.ann : Ann := ⟨fun n => bif Nat.beq n 6 then [1, 2, 3, 9, 10, 12, 13] else [], fun n => none, fun n => none⟩
def law17_merged.sh (a0 a1 a2 : AV) (σ : Store) (Q : AEnd → Store → Prop) : Prop :=
 Do (aFreeze ((a0 : AV)).cells) fun t3 =>
 Do (aPureC Tryz.prog 9 [a1]) fun t19 =>
 Do (aExt t19 0) fun t20 =>
 Do (aExt t19 1) fun t21 =>
 Do (aExt t19 2) fun t22 =>
 Do (aUn Tryz.prog .not t22) fun t24 =>
 aCond t24
 (Q (.ret (.tuple [(.val (.slice none 0 0)), (.val (.slice none 0 0)), (.val (.bool false))])) σ)
 (aLoop (fun go vs σ =>
 At vs 0 fun s1 => At vs 1 fun s2 => At vs 2 fun s3 => At vs 3 fun s9 => At vs 4 fun s10 => At vs 5 fun s12 => At vs 6 fun s13 => Do (aBuiltin Tryz.prog .len #[23] [s9]) fun t27 =>
 Do (aBin Tryz.prog .lss 3 s13 t27) fun t28 =>
 aCond t28
 (Do (aIndexAddr .slice 1 s9 s13) fun t33 =>
 Do (loadF false 1 t33) fun t34 =>
 Do (aBin Tryz.prog .lss 3 t34 (.val (.int .i64 0))) fun t35 =>
 Do (aGuard t35 false (aIs s9)) fun t37 =>
 Do (aGuard t35 false (aIs s13)) fun t38 =>
 Do (aGuard t35 false (aIndexAddr .slice 1 t37 t38)) fun t39 =>
 Do (aGuard t35 false (loadF false 1 t39)) fun t40 =>
 Do (aGuard t35 false (aIs s2)) fun t41 =>
 Do (aGuard t35 false (aBuiltin Tryz.prog .len #[22] [t41])) fun t42 =>
 Do (aGuard t35 false (aBin Tryz.prog .geq 3 t40 t42)) fun t43 =>
 Do (aPick t35 (.val (.bool true)) t43) fun t44 =>
 aCond t44
 (Q (.ret (.tuple [(.val (.slice none 0 0)), (.val (.slice none 0 0)), (.val (.bool false))])) σ)
 (Do (aIndexAddr .slice 1 s9 s13) fun t49 =>
 Do (loadF false 1 t49) fun t50 =>
 Do (aIndexAddr .slice 1 s2 t50) fun t51 =>
 Do (loadF false 1 t51) fun t52 =>
 Do (aSlLit (mkE [.val (.slice none 0 0)]) 1 1 [(0, t52)]) fun t53 =>
 aAppend 33 1 24 s12 t53 σ (subK fun t54 σ_1 =>
 Do (aBin Tryz.prog .add 3 s13 (.val (.int .i64 1))) fun t30 =>
 go [s1, s2, s3, s9, s10, t54, t30] σ_1)))
 (Do (loadF true 1 s3) fun t56 =>
 aCall Tryz.prog 13 [t56, s1, s12] σ (fun t59 σ_2 =>
 Do (aExt t59 0) fun t60 =>
 Do (aExt t59 1) fun t61 =>
 Do (aExt t59 2) fun t62 =>
 Do (aBin Tryz.prog .neq 35 t62 (.val (.int .i64 0))) fun t64 =>
 aCond t64
 (Q (.ret (.tuple [(.val (.slice none 0 0)), (.val (.slice none 0 0)), (.val (.bool false))])) σ_2)
 (Do (aPureC Tryz.prog 55 [s1, s2, s9, s10, t61, t60]) fun t72 =>
 Q (.ret (.tuple [t60, t72, (.val (.bool true))])) σ_2)) (fun e σ_3 => Q (.pan e) σ_3)))
 [a1, a2, t3, t20, t21, (.val (.slice none 0 0)), (.val (.int .i64 0))] σ)
theorem law17_merged.eq (a0 a1 a2 : AV) (σ : Store) (Q : AEnd → Store → Prop) : vc (semOf Tryz.prog law17_merged.mark) Tryz.f26.ntmps law17_merged.ann (bodyOf Tryz.f26) (endK [.tmp 6, .tmp 7, .tmp 8] Q) (argFr [a0, a1, a2]) σ = law17_merged.sh a0 a1 a2 σ Q := by kernel_rfl
theorem law17_merged.go {a0 a1 a2 : AV} {σ : Store} {Q : AEnd → Store → Prop} (h : law17_merged.sh a0 a1 a2 σ Q) : ACalls Tryz.prog 26 [a0, a1, a2] σ Q :=
 acalls_of_eq [.tmp 6, .tmp 7, .tmp 8] Tryz.func26 (by kernel_rfl) (by kernel_rfl) (by kernel_rfl) (by kernel_rfl) (law17_merged.eq a0 a1 a2 σ Q) h
theorem merged_ok (b : Int) (l : List TabR) (rows : List (List En)) (h : StoreOk b l rows) : aPure Tryz.prog 26 [trA b, .lst 36 (l.map tbF) .ro, .lst 1 (rows.map enL) .ro] (mergedR b l rows) := by
 refine ACalls.fin (law17_merged.go ?_)
 unfold law17_merged.sh mergedR
 obtain ⟨hm, hpw, h5⟩ := (rightT_iff l).1 h.right
 have hrl := h.tells.len
 have hp := Inputs_ok l .ro (by omega)
 unfold inputsR pickR at hp
 rw [if_pos h.right] at hp
 have hfr := tells_len h.tells
 by_cases hk : lvlT l < 3
 ·rw [if_pos hk] at hp ⊢
  rw [map_itN] at hp
  have iP : PC Tryz.prog 9 [.lst 36 (l.map tbF) .ro] True _ := ⟨fun _ => PC.of hp⟩
  have htt : (true : Bool) = true := rfl
  have hmI : ∀ j, j < (inK l (lvlT l)).length → (inK l (lvlT l)).getD j default < l.length := fun j hj => (inK_mem.1 (getD_memT hj)).1
  have hIl : (inK l (lvlT l)).length ≤ l.length := Nat.le_trans (List.length_filter_le _ _) (by rw [List.length_range]; exact Nat.le_refl _)
  have hR := rowsIn_ok (k := lvlT l) h
  have hf : ∀ r ∈ rowsIn l (lvlT l) rows, fit r = true := fun r hr => hR.fit hr
  have hnl := (merged_all h hk).1
  have hnl2 := (merged_all h hk).2.1
  have hRl : (rowsIn l (lvlT l) rows).length = (inK l (lvlT l)).length := hR.1
  have hpl := parts_len17 (k := lvlT l) hf
  have hpf : ∀ p ∈ partsT (lvlT l) (rowsIn l (lvlT l) rows), p.length ≤ 100000 := fun p hp => by have := (fit_right (parts_fit hf hp)).1; omega
  have hC := Compact_ok b l (rowsIn l (lvlT l) rows) .ro .ro (by omega) (by omega) (fun r hr => by have := (fit_right (hf r hr)).1; omega)
  rw [compact_store h hk] at hC
  dsimp only at hC
  have iC : ∀ {a c : AV} {m m' : SM} [h1 : IsL a tbF 36 l m] [h2 : IsL c enL 1 (rowsIn l (lvlT l) rows) m'], PC Tryz.prog 13 [trA b, a, c] True (.tuple [.lst 36 ((nextT b l (lvlT l) (rowsIn l (lvlT l) rows)).map tbF) .ro, .lst 1 ((partsT (lvlT l) (rowsIn l (lvlT l) rows)).map enL) .ro, I .i64 ((0 : Nat) : Int)]) := by
   intro a c m m' h1 h2
   exact ⟨fun _ => ⟨[trA b, .lst 36 (l.map tbF) .ro, .lst 1 ((rowsIn l (lvlT l) rows).map enL) .ro], ⟨SubV.refl _, fun R v hv => SubV.ro _ _ _ R v (h1.sub R v hv), fun R v hv => SubV.ro _ _ _ R v (h2.sub R v hv), trivial⟩, hC⟩⟩
  have hnn : (nextT b l (lvlT l) (rowsIn l (lvlT l) rows)).length ≤ l.length := hnl2
  repeat' (with_reducible first|apply Stp.go|refine imp fun _=>?_|refine zq ?_|refine zt ?_|refine zf ?_|refine zg ?_|refine za ?_|refine altF ?_|refine all fun _=>?_|refine both ?_ ?_|refine zu ?_|refine zv ?_|refine cho (fun _=>?_) fun _=>?_|refine zw ?_)
  refine loopI (β := Nat × Value) (fun x => x.1 ≤ (inK l (lvlT l)).length)
   (fun x => [.lst 36 (l.map tbF) .ro, .lst 1 (rows.map enL) .ro, .rptr [I .i64 b], .lst 1 ((inK l (lvlT l)).map itN) .ro, I .i64 (lvlT l + 1 : Nat), .own x.2 (((inK l (lvlT l)).take x.1).map fun i => rows.getD i default).length, I .i64 (x.1 : Nat)])
   (fun x => [.row x.2 EsT 1 ((((inK l (lvlT l)).take x.1).map fun i => rows.getD i default).map enL) 0]) (fun x => (inK l (lvlT l)).length - x.1) (0, .slice none 0 0) (Nat.zero_le _) (Sub.nil_own EsT (sz := 1) (by decide) _ [_, _, _, _, _] [_]) ?_
  rintro ⟨i, v⟩ q1
  dsimp only at q1 ⊢
  by_cases hi : i < (inK l (lvlT l)).length
  ·have hx := hmI i hi
   have htk := congrArg (List.map fun i => rows.getD i default) (take_succ_d hi)
   rw [List.map_append] at htk
   have hln : (((inK l (lvlT l)).take i).map fun i => rows.getD i default).length ≤ 1000 := by rw [List.length_map, List.length_take]; omega
   repeat' (with_reducible first|apply Stp.go|refine imp fun _=>?_|refine zq ?_|refine zt ?_|refine zf ?_|refine zg ?_|refine za ?_|refine altF ?_|refine all fun _=>?_|refine both ?_ ?_|refine zu ?_|refine zv ?_|refine cho (fun _=>?_) fun _=>?_|refine zw ?_)
   rename_i w
   exact again (i + 1, w) (by dsimp only; omega) (by dsimp only; omega) (by dsimp only; rw [htk]; exact Sub.refl _ _)
  ·have ei : i = (inK l (lvlT l)).length := by omega
   subst ei
   rw [List.take_length, show ((inK l (lvlT l)).map fun i => rows.getD i default) = rowsIn l (lvlT l) rows from rfl]
   have iI : IsL (.lst 1 ((inK l (lvlT l)).map itN) .ro) it 1 ((inK l (lvlT l)).map Int.ofNat) .ro := ⟨by rw [← map_itN]; exact SubV.refl _⟩
   have hJl : ((inK l (lvlT l)).map Int.ofNat).length ≤ 100000 := by rw [List.length_map]; omega
   repeat' (with_reducible first|apply Stp.go|refine imp fun _=>?_|refine zq ?_|refine zt ?_|refine zf ?_|refine zg ?_|refine za ?_|refine altF ?_|refine all fun _=>?_|refine both ?_ ?_|refine zu ?_|refine zv ?_|refine cho (fun _=>?_) fun _=>?_|refine zw ?_)
   refine ⟨⟨hrl, by omega, hJl, by omega, by omega, hpf⟩, ?_⟩
   exact ⟨_, _, _, rfl, Sub.refl _ _, rfl, rfl⟩
 ·rw [if_neg hk] at hp ⊢
  have iP : PC Tryz.prog 9 [.lst 36 (l.map tbF) .ro] True _ := ⟨fun _ => PC.of hp⟩
  have hff : ¬ (false : Bool) = true := by decide
  repeat' (with_reducible first|apply Stp.go|refine imp fun _=>?_|refine zq ?_|refine zt ?_|refine zf ?_|refine zg ?_|refine za ?_|refine altF ?_|refine all fun _=>?_|refine both ?_ ?_|refine zu ?_|refine zv ?_|refine cho (fun _=>?_) fun _=>?_|refine zw ?_)
  all_goals exact ⟨_, _, _, rfl, Sub.tuple (retNil tbF (sz := 36) (by decide) (retNil enL (sz := 1) (by decide) (Sub.app_nil _))), rfl, rfl⟩
end Go.Ab

namespace Go.Ab
open Go.Proofs
def mergesT (b : Int) : Nat → List TabR × List (List En) → List TabR × List (List En)
 | 0, s => s
 | n + 1, s => if lvlT s.1 < 3 then mergesT b n (mergedT b s.1 s.2) else s
def cntM (merges : List Int) (i : Nat) : Nat := if i < merges.length then (merges.getD i default % 4).toNat else 0
def storeT (b : Int) (news : List (List En)) (merges : List Int) : Nat → List TabR × List (List En)
 | 0 => ([], [])
 | i + 1 => if (fit17 20 (news.getD i default)).length = 0 then storeT b news merges i
  else mergesT b (cntM merges i) (newT b 0 (fit17 20 (news.getD i default)) :: (storeT b news merges i).1, fit17 20 (news.getD i default) :: (storeT b news merges i).2)
theorem merges_ok {b : Int} : ∀ (n : Nat) {s : List TabR × List (List En)}, StoreOk b s.1 s.2 → StoreOk b (mergesT b n s).1 (mergesT b n s).2 ∧ (mergesT b n s).1.length ≤ s.1.length
 | 0, s, h => ⟨h, Nat.le_refl _⟩
 | n + 1, s, h => by
  unfold mergesT
  split
  ·rename_i hk
   have h1 := merged_all h hk
   have h2 := merges_ok n (s := mergedT b s.1 s.2) h1.1
   exact ⟨h2.1, by have := h1.2.1; omega⟩
  ·exact ⟨h, Nat.le_refl _⟩
theorem store_nil (b : Int) : StoreOk b [] [] := ⟨(rightT_iff _).2 ⟨fun x hx => (by cases hx), .nil, Nat.zero_le _⟩, .nil⟩
theorem store_all (b : Int) (news : List (List En)) (merges : List Int) : ∀ i, i ≤ 14 → StoreOk b (storeT b news merges i).1 (storeT b news merges i).2 ∧ (storeT b news merges i).1.length ≤ i
 | 0, _ => ⟨store_nil b, Nat.le_refl _⟩
 | i + 1, hi => by
  have ih := store_all b news merges i (by omega)
  unfold storeT
  split
  ·exact ⟨ih.1, by omega⟩
  ·rename_i h0
   have hf := fit17_fit (k := 20) (l := news.getD i default) (by decide) (by omega)
   have h1 := flush_all ih.1 hf (by omega)
   have h2 := merges_ok (cntM merges i) (s := (newT b 0 (fit17 20 (news.getD i default)) :: (storeT b news merges i).1, fit17 20 (news.getD i default) :: (storeT b news merges i).2)) h1
   refine ⟨h2.1, Nat.le_trans h2.2 ?_⟩
   dsimp only
   rw [List.length_cons]
   omega
instance mask2 {P : Program} {t : TypeId} {x : Int} {K : AV → Prop} : Stp (Do (aBin P .and t (.val (.int .i64 x)) (.val (.int .i64 3))) K) (K (.val (.int .i64 ((x % 4).toNat : Nat)))) := ⟨fun h => s_mask 2 (by decide) h⟩
def law17_store.mark : Mark := ⟨fun t => Nat.beq t 33 || Nat.beq t 41 || Nat.beq t 70, fun t => Nat.beq t 48, fun t => Nat.beq t 3, fun t => Nat.beq t 32 || Nat.beq t 38 || Nat.beq t 60 || Nat.beq t 67, fun t => false⟩
def law17_store.ann : Ann := ⟨fun n => bif Nat.beq n 4 then [1, 2, 3, 9, 10, 11] else bif Nat.beq n 14 then [1, 2, 3, 9, 10, 11, 15] else [], fun n => none, fun n => none⟩
def law17_store.sh (a0 a1 a2 : AV) (σ : Store) (Q : AEnd → Store → Prop) : Prop :=
 Do (aFreeze ((a0 : AV)).cells) fun t3 =>
 aLoop (fun go vs σ =>
 At vs 0 fun s1 => At vs 1 fun s2 => At vs 2 fun s3 => At vs 3 fun s9 => At vs 4 fun s10 => At vs 5 fun s11 => Do (aBuiltin Tryz.prog .len #[22] [s1]) fun t21 =>
 Do (aBin Tryz.prog .lss 3 s11 t21) fun t22 =>
 Do (aGuard t22 true (aIs s11)) fun t24 =>
 Do (aGuard t22 true (aBin Tryz.prog .lss 3 t24 (.val (.int .i64 14)))) fun t25 =>
 Do (aPick t22 t25 (.val (.bool false))) fun t26 =>
 aCond t26
 (Do (aIndexAddr .slice 1 s1 s11) fun t31 =>
 Do (loadF false 1 t31) fun t32 =>
 Do (aPureC Tryz.prog 19 [t32, (.val (.int .i64 20))]) fun t33 =>
 Do (aBuiltin Tryz.prog .len #[33] [t33]) fun t35 =>
 Do (aBin Tryz.prog .eql 3 t35 (.val (.int .i64 0))) fun t36 =>
 aCond t36
 (Do (aBin Tryz.prog .add 3 s11 (.val (.int .i64 1))) fun t28 =>
 go [s1, s2, s3, s9, s10, t28] σ)
 (Do (loadF true 1 s3) fun t38 =>
 Do (aPureC Tryz.prog 20 [t38, s9, t33]) fun t41 =>
 Do (aExt t41 0) fun t42 =>
 Do (aExt t41 1) fun t43 =>
 Do (aBin Tryz.prog .neq 35 t43 (.val (.int .i64 0))) fun t45 =>
 aCond t45
 (Q (.ret (.tuple [(.val (.slice none 0 0)), (.val (.slice none 0 0)), (.val (.bool false))])) σ)
 (aRowL 33 (mkE [.val (.slice none 0 0)]) 1 1 [(0, t33)] σ fun t48 σ_1 =>
 aAppend 33 1 24 t48 s10 σ_1 (subK fun t50 σ_2 =>
 aLoop (fun go_1 vs_1 σ_3 =>
 At vs_1 0 fun s1_1 => At vs_1 1 fun s2_1 => At vs_1 2 fun s3_1 => At vs_1 3 fun s9_1 => At vs_1 4 fun s10_1 => At vs_1 5 fun s11_1 => At vs_1 6 fun s15 => Do (aBuiltin Tryz.prog .len #[23] [s2_1]) fun t53 =>
 Do (aBin Tryz.prog .lss 3 s11_1 t53) fun t54 =>
 Do (aGuard t54 true (aIs s15)) fun t56 =>
 Do (aGuard t54 true (aIs s2_1)) fun t57 =>
 Do (aGuard t54 true (aIs s11_1)) fun t58 =>
 Do (aGuard t54 true (aIndexAddr .slice 1 t57 t58)) fun t59 =>
 Do (aGuard t54 true (loadF false 1 t59)) fun t60 =>
 Do (aGuard t54 true (aBin Tryz.prog .and 3 t60 (.val (.int .i64 3)))) fun t61 =>
 Do (aGuard t54 true (aBin Tryz.prog .lss 3 t56 t61)) fun t62 =>
 Do (aPick t54 t62 (.val (.bool false))) fun t63 =>
 aCond t63
 (Do (loadF true 1 s3_1) fun t67 =>
 Do (aPureC Tryz.prog 26 [t67, s9_1, s10_1]) fun t70 =>
 Do (aExt t70 0) fun t71 =>
 Do (aExt t70 1) fun t72 =>
 Do (aExt t70 2) fun t73 =>
 Do (aUn Tryz.prog .not t73) fun t75 =>
 aCond t75
 (Do (aBin Tryz.prog .add 3 s11_1 (.val (.int .i64 1))) fun t28_1 =>
 go [s1_1, s2_1, s3_1, s9_1, s10_1, t28_1] σ_3)
 (Do (aBin Tryz.prog .add 3 s15 (.val (.int .i64 1))) fun t65 =>
 go_1 [s1_1, s2_1, s3_1, t71, t72, s11_1, t65] σ_3))
 (Do (aBin Tryz.prog .add 3 s11_1 (.val (.int .i64 1))) fun t28_2 =>
 go [s1_1, s2_1, s3_1, s9_1, s10_1, t28_2] σ_3))
 [s1, s2, s3, t42, t50, s11, (.val (.int .i64 0))] σ_2))))
 (Q (.ret (.tuple [s9, s10, (.val (.bool true))])) σ))
 [a1, a2, t3, (.val (.slice none 0 0)), (.val (.slice none 0 0)), (.val (.int .i64 0))] σ
theorem law17_store.eq (a0 a1 a2 : AV) (σ : Store) (Q : AEnd → Store → Prop) : vc (semOf Tryz.prog law17_store.mark) Tryz.f8.ntmps law17_store.ann (bodyOf Tryz.f8) (endK [.tmp 6, .tmp 7, .tmp 8] Q) (argFr [a0, a1, a2]) σ = law17_store.sh a0 a1 a2 σ Q := by kernel_rfl
theorem law17_store.go {a0 a1 a2 : AV} {σ : Store} {Q : AEnd → Store → Prop} (h : law17_store.sh a0 a1 a2 σ Q) : ACalls Tryz.prog 8 [a0, a1, a2] σ Q :=
 acalls_of_eq [.tmp 6, .tmp 7, .tmp 8] Tryz.func8 (by kernel_rfl) (by kernel_rfl) (by kernel_rfl) (by kernel_rfl) (law17_store.eq a0 a1 a2 σ Q) h
theorem store_ok (b : Int) (news : List (List En)) (merges : List Int) (m m' : SM) (hn : news.length ≤ 9223372036854775807) (hm : merges.length ≤ 9223372036854775807) (hnl : ∀ r ∈ news, r.length ≤ 9223372036854775807) :
  aPure Tryz.prog 8 [trA b, .lst 1 (news.map enL) m, .lst 1 (merges.map it) m']
   (.tuple [.lst 36 ((storeT b news merges (min news.length 14)).1.map tbF) .ro, .lst 1 ((storeT b news merges (min news.length 14)).2.map enL) .ro, B true]) := by
 refine ACalls.fin (law17_store.go ?_)
 unfold law17_store.sh
 repeat' (with_reducible first|apply Stp.go|refine imp fun _=>?_|refine zq ?_|refine zt ?_|refine zf ?_|refine zg ?_|refine za ?_|refine altF ?_|refine all fun _=>?_|refine both ?_ ?_|refine zu ?_|refine zv ?_|refine cho (fun _=>?_) fun _=>?_|refine zw ?_)
 refine loopI (β := Nat) (fun i => i ≤ news.length ∧ i ≤ 14)
  (fun i => [.lst 1 (news.map enL) m, .lst 1 (merges.map it) m', .rptr [I .i64 b], .lst 36 ((storeT b news merges i).1.map tbF) .ro, .lst 1 ((storeT b news merges i).2.map enL) .ro, I .i64 (i : Nat)])
  (fun _ => []) (fun i => 14 - i) 0 ⟨Nat.zero_le _, Nat.zero_le _⟩
  (Sub.vals ⟨SubV.refl _, SubV.refl _, SubV.refl _, fun R v h => SubV.ro _ _ _ R v (SubV.nil 36 (by decide) R v h), fun R v h => SubV.ro _ _ _ R v (SubV.nil 1 (by decide) R v h), SubV.refl _, trivial⟩) ?_
 rintro i ⟨h1, h2⟩
 have hsi := store_all b news merges i h2
 by_cases hi : i < news.length ∧ i < 14
 ·obtain ⟨hi1, hi2⟩ := hi
  have hrl := hnl _ (getD_memT hi1)
  have hfl := fit17_len 20 (news.getD i default)
  have hst : storeT b news merges (i + 1) = if (fit17 20 (news.getD i default)).length = 0 then storeT b news merges i
   else mergesT b (cntM merges i) (newT b 0 (fit17 20 (news.getD i default)) :: (storeT b news merges i).1, fit17 20 (news.getD i default) :: (storeT b news merges i).2) := rfl
  have hff := fit17_fit (k := 20) (l := news.getD i default) (by decide)
  generalize hS : storeT b news merges i = s at *
  obtain ⟨l, rows⟩ := s
  dsimp only at hsi hst ⊢
  by_cases h0 : (fit17 20 (news.getD i default)).length = 0
  ·rw [if_pos h0] at hst
   repeat' (with_reducible first|apply Stp.go|refine imp fun _=>?_|refine zq ?_|refine zt ?_|refine zf ?_|refine zg ?_|refine za ?_|refine altF ?_|refine all fun _=>?_|refine both ?_ ?_|refine zu ?_|refine zv ?_|refine cho (fun _=>?_) fun _=>?_|refine zw ?_)
   exact again (i + 1) (by omega) ⟨by omega, by omega⟩ (by rw [hst]; exact Sub.refl _ _)
  ·rw [if_neg h0] at hst
   have hf := hff (by omega)
   have hrl2 := hsi.1.tells.len
   have hF := Flush_ok b l (fit17 20 (news.getD i default)) .ro .ro (by omega) (by omega)
   unfold flushT at hF
   rw [if_pos ⟨hsi.1.right, hf⟩, if_pos (by omega)] at hF
   dsimp only at hF
   have hso := flush_all hsi.1 hf (by omega)
   have iF : ∀ {a c : AV} {m m' : SM} [h1 : IsL a tbF 36 l m] [h2 : IsL c En.av 4 (fit17 20 (news.getD i default)) m'], PC Tryz.prog 20 [trA b, a, c] True (.tuple [.lst 36 ((newT b 0 (fit17 20 (news.getD i default)) :: l).map tbF) .ro, I .i64 ((0 : Nat) : Int)]) := by
    intro a c m m' h1 h2
    exact ⟨fun _ => ⟨[trA b, .lst 36 (l.map tbF) .ro, .lst 4 ((fit17 20 (news.getD i default)).map En.av) .ro], ⟨SubV.refl _, fun R v hv => SubV.ro _ _ _ R v (h1.sub R v hv), fun R v hv => SubV.ro _ _ _ R v (h2.sub R v hv), trivial⟩, hF⟩⟩
   repeat' (with_reducible first|apply Stp.go|refine imp fun _=>?_|refine zq ?_|refine zt ?_|refine zf ?_|refine zg ?_|refine za ?_|refine altF ?_|refine all fun _=>?_|refine both ?_ ?_|refine zu ?_|refine zv ?_|refine cho (fun _=>?_) fun _=>?_|refine zw ?_)
   rename_i v0 v1
   refine loopI (β := Nat × List TabR × List (List En)) (fun x => StoreOk b x.2.1 x.2.2 ∧ x.2.1.length ≤ i + 1 ∧ x.1 ≤ cntM merges i ∧ mergesT b (cntM merges i - x.1) x.2 = storeT b news merges (i + 1))
    (fun x => [.lst 1 (news.map enL) m, .lst 1 (merges.map it) m', .rptr [I .i64 b], .lst 36 (x.2.1.map tbF) .ro, .lst 1 (x.2.2.map enL) .ro, I .i64 (i : Nat), I .i64 (x.1 : Nat)])
    (fun _ => []) (fun x => cntM merges i - x.1) (0, newT b 0 (fit17 20 (news.getD i default)) :: l, fit17 20 (news.getD i default) :: rows) ⟨hso, by dsimp only; rw [List.length_cons]; omega, Nat.zero_le _, hst.symm⟩
    (Sub.cons_same _ (Sub.cons_same _ (Sub.cons_same _ (Sub.cons_same _ (retOwn (Sub.app_nil _)))))) ?_
   rintro ⟨k, l2, rows2⟩ ⟨q1, q2, q3, q4⟩
   dsimp only at q1 q2 q3 q4 ⊢
   have hM := merged_ok b l2 rows2 q1
   have hcn : cntM merges i = if i < merges.length then (merges.getD i default % 4).toNat else 0 := rfl
   by_cases him : i < merges.length
   ·rw [if_pos him] at hcn
    by_cases hk : k < cntM merges i
    ·rw [show cntM merges i - k = (cntM merges i - (k + 1)) + 1 by omega] at q4
     unfold mergesT at q4
     unfold mergedR at hM
     have hk2 : k < (merges.getD i default % 4).toNat := by omega
     by_cases hlv : lvlT l2 < 3
     ·rw [if_pos hlv] at q4 hM
      have iM : PC Tryz.prog 26 [trA b, .lst 36 (l2.map tbF) .ro, .lst 1 (rows2.map enL) .ro] True _ := ⟨fun _ => PC.of hM⟩
      have htt : (true : Bool) = true := rfl
      have hma := merged_all q1 hlv
      repeat' (with_reducible first|apply Stp.go|refine imp fun _=>?_|refine zq ?_|refine zt ?_|refine zf ?_|refine zg ?_|refine za ?_|refine altF ?_|refine all fun _=>?_|refine both ?_ ?_|refine zu ?_|refine zv ?_|refine cho (fun _=>?_) fun _=>?_|refine zw ?_)
      exact again (k + 1, mergedT b l2 rows2) (by dsimp only; omega) ⟨hma.1, by have := hma.2.1; dsimp only; omega, by dsimp only; omega, q4⟩ (Sub.refl _ _)
     ·rw [if_neg hlv] at q4 hM
      have iM : PC Tryz.prog 26 [trA b, .lst 36 (l2.map tbF) .ro, .lst 1 (rows2.map enL) .ro] True _ := ⟨fun _ => PC.of hM⟩
      have hff : ¬ (false : Bool) = true := by decide
      repeat' (with_reducible first|apply Stp.go|refine imp fun _=>?_|refine zq ?_|refine zt ?_|refine zf ?_|refine zg ?_|refine za ?_|refine altF ?_|refine all fun _=>?_|refine both ?_ ?_|refine zu ?_|refine zv ?_|refine cho (fun _=>?_) fun _=>?_|refine zw ?_)
      exact again (i + 1) (by omega) ⟨by omega, by omega⟩ (by rw [← q4]; exact Sub.refl _ _)
    ·have hk2 : ¬ k < (merges.getD i default % 4).toNat := by omega
     rw [show cntM merges i - k = 0 by omega] at q4
     repeat' (with_reducible first|apply Stp.go|refine imp fun _=>?_|refine zq ?_|refine zt ?_|refine zf ?_|refine zg ?_|refine za ?_|refine altF ?_|refine all fun _=>?_|refine both ?_ ?_|refine zu ?_|refine zv ?_|refine cho (fun _=>?_) fun _=>?_|refine zw ?_)
     exact again (i + 1) (by omega) ⟨by omega, by omega⟩ (by rw [← q4]; exact Sub.refl _ _)
   ·rw [if_neg him] at hcn
    rw [show cntM merges i - k = 0 by omega] at q4
    repeat' (with_reducible first|apply Stp.go|refine imp fun _=>?_|refine zq ?_|refine zt ?_|refine zf ?_|refine zg ?_|refine za ?_|refine altF ?_|refine all fun _=>?_|refine both ?_ ?_|refine zu ?_|refine zv ?_|refine cho (fun _=>?_) fun _=>?_|refine zw ?_)
    exact again (i + 1) (by omega) ⟨by omega, by omega⟩ (by rw [← q4]; exact Sub.refl _ _)
 ·have e : min news.length 14 = i := by omega
  rw [e]
  by_cases hi1 : i < news.length
  ·repeat' (with_reducible first|apply Stp.go|refine imp fun _=>?_|refine zq ?_|refine zt ?_|refine zf ?_|refine zg ?_|refine za ?_|refine altF ?_|refine all fun _=>?_|refine both ?_ ?_|refine zu ?_|refine zv ?_|refine cho (fun _=>?_) fun _=>?_|refine zw ?_)
   all_goals exact ⟨_, _, _, rfl, Sub.refl _ _, rfl, rfl⟩
  ·repeat' (with_reducible first|apply Stp.go|refine imp fun _=>?_|refine zq ?_|refine zt ?_|refine zf ?_|refine zg ?_|refine za ?_|refine altF ?_|refine all fun _=>?_|refine both ?_ ?_|refine zu ?_|refine zv ?_|refine cho (fun _=>?_) fun _=>?_|refine zw ?_)
   all_goals exact ⟨_, _, _, rfl, Sub.refl _ _, rfl, rfl⟩
end Go.Ab

namespace Go.Ab
open Go.Proofs
instance {a c : AV} {b : Int} {l : List TabR} {RS : List (List En)} {m m' : SM} [h1 : IsL a tbF 36 l m] [h2 : IsL c enL 1 RS m'] : PC Tryz.prog 13 [trA b, a, c] (l.length ≤ 1000000 ∧ RS.length ≤ 1000000 ∧ ∀ r ∈ RS, r.length ≤ 1000000) (.tuple [.lst 36 ((compactT b l RS).1.1.map tbF) .ro, .lst 1 ((compactT b l RS).1.2.map enL) .ro, I .i64 ((compactT b l RS).2 : Nat)]) := ⟨fun hl => ⟨[trA b, .lst 36 (l.map tbF) m, .lst 1 (RS.map enL) m'], ⟨SubV.refl _, h1.sub, h2.sub, trivial⟩, Compact_ok b l RS m m' hl.1 hl.2.1 hl.2.2⟩⟩
def law17_MoveCompacts.mark : Mark := ⟨fun t => Nat.beq t 46 || Nat.beq t 63 || Nat.beq t 71 || Nat.beq t 77 || Nat.beq t 83 || Nat.beq t 99 || Nat.beq t 139 || Nat.beq t 147 || Nat.beq t 153 || Nat.beq t 156 || Nat.beq t 161 || Nat.beq t 169 || Nat.beq t 183 || Nat.beq t 191 || Nat.beq t 192, fun t => false, fun t => false, fun t => Nat.beq t 98 || Nat.beq t 114 || Nat.beq t 120 || Nat.beq t 130 || Nat.beq t 132, fun t => false⟩
def law17_MoveCompacts.ann : Ann := ⟨fun n => bif Nat.beq n 13 then [0, 3, 4, 5, 6, 15, 16, 17, 18, 20, 21, 22, 24, 25, 26, 27, 28] else bif Nat.beq n 21 then [0, 4, 5, 15, 16, 17, 18, 20, 21, 22, 24, 25, 26, 27, 29] else [], fun n => bif Nat.beq n 26 then some [0, 4, 5, 15, 16, 17, 21, 22, 24, 25, 26, 27] else none, fun n => none⟩
end Go.Ab

namespace Go.Ab
theorem getD_mem {α : Type} [Inhabited α] {l : List α} {i : Nat} (h : i < l.length) : l.getD i default ∈ l := by
 rw [List.getD_eq_getElem?_getD, List.getElem?_eq_getElem h]; exact List.getElem_mem _
def twoP (b : Int) (o : Option (List UInt8 × List UInt8)) : Bool := match o with
 | none => false
 | some (x, y) => decide (¬ x = y) && decide (kept x b = kept y b)
theorem two_mk {b : Int} {p : List UInt8 × List UInt8} (h : ¬ p.1 = p.2) (e : kept p.1 b = kept p.2 b) : twoP b (some p) = true := by
 show (decide (¬ p.1 = p.2) && decide (kept p.1 b = kept p.2 b)) = true
 rw [decide_eq_true h, decide_eq_true e]; rfl
theorem rootD_one (b : Int) {L : List (List UInt8)} (h : L.length = 1) : rootD b L = leafD b (L.getD 0 default) := by
 unfold rootD; rw [dif_neg (by omega), dif_pos h]
theorem rootD_two (b : Int) {L : List (List UInt8)} (h : ¬ L.length ≤ 1) : rootD b L = nodeD b (rootD b (L.take (halfN L.length))) (rootD b (L.drop (halfN L.length))) := by
 conv => lhs; unfold rootD
 rw [dif_neg (by omega), dif_neg (by omega)]
theorem cat_inj {a b c d : List UInt8} (h : a ++ b = c ++ d) (hl : a.length = c.length) : a = c ∧ b = d := List.append_inj h hl
instance (priority := 75) ldFD {l : List UInt8} {K : AV → Prop} [hl : Len32 l] : Stp (Do (loadF true 32 (.rptr (l.map byt))) K) (K (dgA l)) := ⟨fun hK => ⟨_, ⟨by decide, fun h => by (cases h), by simp [hl.len], by
 rw [List.take_of_length_le (by simp [hl.len])]; rfl⟩, hK⟩⟩
theorem twoP_is (b : Int) (o : Option (List UInt8 × List UInt8)) : (decide (¬ o = none) && decide (¬ (o.getD ([], [])).1 = (o.getD ([], [])).2) && decide (kept (o.getD ([], [])).1 b = kept (o.getD ([], [])).2 b)) = twoP b o := by
 cases o with
 | none => rfl
 | some p => rfl
end Go.Ab

namespace Go.Ab
open Go.Proofs
def bytes_Equal.mark : Mark := ⟨fun t => false, fun t => false, fun t => false, fun t => false, fun t => false⟩
def bytes_Equal.ann : Ann := ⟨fun n => [], fun n => none, fun n => none⟩
def bytes_Equal.sh (a0 a1 : AV) (σ : Store) (Q : AEnd → Store → Prop) : Prop :=
 Do (aConvBS a0) fun t6 =>
 Do (aConvBS a1) fun t8 =>
 Do (aBin Tryz.prog .eql 9 t6 t8) fun t9 =>
 Q (.ret t9) σ
theorem bytes_Equal.eq (a0 a1 : AV) (σ : Store) (Q : AEnd → Store → Prop) : vc (semOf Tryz.prog bytes_Equal.mark) Tryz.f128.ntmps bytes_Equal.ann (bodyOf Tryz.f128) (endK [.tmp 4] Q) (argFr [a0, a1]) σ = bytes_Equal.sh a0 a1 σ Q := by kernel_rfl
theorem bytes_Equal.go {a0 a1 : AV} {σ : Store} {Q : AEnd → Store → Prop} (h : bytes_Equal.sh a0 a1 σ Q) : ACalls Tryz.prog 128 [a0, a1] σ Q :=
 acalls_of_eq [.tmp 4] Tryz.func128 (by kernel_rfl) (by kernel_rfl) (by kernel_rfl) (by kernel_rfl) (bytes_Equal.eq a0 a1 σ Q) h
def clash_leafText.mark : Mark := ⟨fun t => false, fun t => Nat.beq t 3, fun t => false, fun t => false, fun t => false⟩
def clash_leafText.ann : Ann := ⟨fun n => [], fun n => none, fun n => none⟩
def clash_leafText.sh (a0 : AV) (σ : Store) (Q : AEnd → Store → Prop) : Prop :=
 aRowL 5 (mkE [.val (.int .u8 0)]) 1 1 [(0, (W8 0))] σ fun t3 σ =>
 aAppend 5 1 1 t3 a0 σ (subK fun t5 σ_1 =>
 Q (.ret t5) σ_1)
theorem clash_leafText.eq (a0 : AV) (σ : Store) (Q : AEnd → Store → Prop) : vc (semOf Tryz.prog clash_leafText.mark) Tryz.f94.ntmps clash_leafText.ann (bodyOf Tryz.f94) (endK [.tmp 2] Q) (argFr [a0]) σ = clash_leafText.sh a0 σ Q := by kernel_rfl
theorem clash_leafText.go {a0 : AV} {σ : Store} {Q : AEnd → Store → Prop} (h : clash_leafText.sh a0 σ Q) : ACalls Tryz.prog 94 [a0] σ Q :=
 acalls_of_eq [.tmp 2] Tryz.func94 (by kernel_rfl) (by kernel_rfl) (by kernel_rfl) (by kernel_rfl) (clash_leafText.eq a0 σ Q) h
def clash_nodeText.mark : Mark := ⟨fun t => false, fun t => Nat.beq t 6, fun t => false, fun t => false, fun t => false⟩
def clash_nodeText.ann : Ann := ⟨fun n => [], fun n => none, fun n => none⟩
def clash_nodeText.sh (a0 a1 : AV) (σ : Store) (Q : AEnd → Store → Prop) : Prop :=
 aNewVar 56 (a0 : AV).cells σ fun t2 σ =>
 aNewVar 56 (a1 : AV).cells σ fun t3 σ_1 =>
 aRowL 5 (mkE [.val (.int .u8 0)]) 1 1 [(0, (W8 1))] σ_1 fun t6 σ_2 =>
 Do (aSlice (.array 32) 1 t2 none none none) fun t7 =>
 aAppend 5 1 1 t6 t7 σ_2 (subK fun t8 σ_3 =>
 Do (aSlice (.array 32) 1 t3 none none none) fun t10 =>
 aAppend 5 1 1 t8 t10 σ_3 (subK fun t11 σ_4 =>
 Q (.ret t11) σ_4))
theorem clash_nodeText.eq (a0 a1 : AV) (σ : Store) (Q : AEnd → Store → Prop) : vc (semOf Tryz.prog clash_nodeText.mark) Tryz.f96.ntmps clash_nodeText.ann (bodyOf Tryz.f96) (endK [.tmp 4] Q) (argFr [a0, a1]) σ = clash_nodeText.sh a0 a1 σ Q := by kernel_rfl
theorem clash_nodeText.go {a0 a1 : AV} {σ : Store} {Q : AEnd → Store → Prop} (h : clash_nodeText.sh a0 a1 σ Q) : ACalls Tryz.prog 96 [a0, a1] σ Q :=
 acalls_of_eq [.tmp 4] Tryz.func96 (by kernel_rfl) (by kernel_rfl) (by kernel_rfl) (by kernel_rfl) (clash_nodeText.eq a0 a1 σ Q) h
def clash_half.mark : Mark := ⟨fun t => false, fun t => false, fun t => false, fun t => false, fun t => false⟩
def clash_half.ann : Ann := ⟨fun n => bif Nat.beq n 2 then [0, 3] else [], fun n => none, fun n => none⟩
def clash_half.sh (a0 : AV) (σ : Store) (Q : AEnd → Store → Prop) : Prop :=
 aLoop (fun go vs σ =>
 At vs 0 fun s0 => At vs 1 fun s3 => Do (aBin Tryz.prog .sub 3 s0 s3) fun t7 =>
 Do (aBin Tryz.prog .lss 3 s3 t7) fun t8 =>
 aCond t8
 (Do (aBin Tryz.prog .mul 3 s3 (.val (.int .i64 2))) fun t10 =>
 go [s0, t10] σ)
 (Q (.ret s3) σ))
 [a0, (.val (.int .i64 1))] σ
theorem clash_half.eq (a0 : AV) (σ : Store) (Q : AEnd → Store → Prop) : vc (semOf Tryz.prog clash_half.mark) Tryz.f95.ntmps clash_half.ann (bodyOf Tryz.f95) (endK [.tmp 2] Q) (argFr [a0]) σ = clash_half.sh a0 σ Q := by kernel_rfl
theorem clash_half.go {a0 : AV} {σ : Store} {Q : AEnd → Store → Prop} (h : clash_half.sh a0 σ Q) : ACalls Tryz.prog 95 [a0] σ Q :=
 acalls_of_eq [.tmp 2] Tryz.func95 (by kernel_rfl) (by kernel_rfl) (by kernel_rfl) (by kernel_rfl) (clash_half.eq a0 σ Q) h
def clash_compare.mark : Mark := ⟨fun t => Nat.beq t 6, fun t => false, fun t => false, fun t => false, fun t => false⟩
def clash_compare.ann : Ann := ⟨fun n => [], fun n => none, fun n => none⟩
def clash_compare.sh (a0 a1 : AV) (σ : Store) (Q : AEnd → Store → Prop) : Prop :=
 Do (aPureC Tryz.prog 128 [a0, a1]) fun t6 =>
 Do (aUn Tryz.prog .not t6) fun t7 =>
 aCond t7
 (Do (aLit [.val (.slice none 0 0), .val (.slice none 0 0)] [(0, 1), (1, 1)] [(0, a0), (1, a1)]) fun t10 =>
 aPanic (.ifc 167 t10) σ (fun e σ_1 => Q (.pan e) σ_1))
 (Q (.ret (.tuple [])) σ)
theorem clash_compare.eq (a0 a1 : AV) (σ : Store) (Q : AEnd → Store → Prop) : vc (semOf Tryz.prog clash_compare.mark) Tryz.f98.ntmps clash_compare.ann (bodyOf Tryz.f98) (endK [] Q) (argFr [a0, a1]) σ = clash_compare.sh a0 a1 σ Q := by kernel_rfl
theorem clash_compare.go {a0 a1 : AV} {σ : Store} {Q : AEnd → Store → Prop} (h : clash_compare.sh a0 a1 σ Q) : ACalls Tryz.prog 98 [a0, a1] σ Q :=
 acalls_of_eq [] Tryz.func98 (by kernel_rfl) (by kernel_rfl) (by kernel_rfl) (by kernel_rfl) (clash_compare.eq a0 a1 σ Q) h
theorem bytes_Equal_ok' (a b : List UInt8) (m n : SM) : aPure Tryz.prog 128 [.lst 1 (a.map byt) m, .lst 1 (b.map byt) n] (B (decide (a = b))) := by
 refine bytes_Equal.go ?_
 unfold bytes_Equal.sh
 repeat' (with_reducible first|apply Stp.go|refine imp fun _=>?_|refine zq ?_|refine zt ?_|refine zf ?_|refine zg ?_|refine za ?_|refine altF ?_|refine all fun _=>?_|refine both ?_ ?_|refine zu ?_|refine zv ?_|refine cho (fun _=>?_) fun _=>?_|refine zw ?_)
 exact ⟨rfl, rfl⟩
instance {x y : AV} {a b : List UInt8} {m n : SM} [h : IsL x byt 1 a m] [k : IsL y byt 1 b n] : PC Tryz.prog 128 [x, y] True (B (decide (a = b))) := ⟨fun _ => ⟨[.lst 1 (a.map byt) m, .lst 1 (b.map byt) n], ⟨h.sub, k.sub, trivial⟩, bytes_Equal_ok' a b m n⟩⟩
theorem leafText_ok (l : List UInt8) (m : SM) (hl : l.length ≤ 10000000000000) : aPure Tryz.prog 94 [.lst 1 (l.map byt) m] (.lst 1 (([0] ++ l).map byt) .ro) := by
 refine ACalls.fin (clash_leafText.go ?_)
 unfold clash_leafText.sh
 repeat' (with_reducible first|apply Stp.go|refine imp fun _=>?_|refine zq ?_|refine zt ?_|refine zf ?_|refine zg ?_|refine za ?_|refine altF ?_|refine all fun _=>?_|refine both ?_ ?_|refine zu ?_|refine zv ?_|refine cho (fun _=>?_) fun _=>?_|refine zw ?_)
 exact ⟨_, _, _, rfl, retOwn (Sub.refl _ _), rfl, rfl⟩
instance {a : AV} {l : List UInt8} {m : SM} [h : IsL a byt 1 l m] : PC Tryz.prog 94 [a] (l.length ≤ 10000000000000) (.lst 1 (([0] ++ l).map byt) .ro) := ⟨fun hl => ⟨[.lst 1 (l.map byt) m], ⟨h.sub, trivial⟩, leafText_ok l m hl⟩⟩
theorem nodeText_ok (l r : List UInt8) [hl : Len32 l] [hr : Len32 r] : aPure Tryz.prog 96 [dgA l, dgA r] (.lst 1 (([1] ++ l ++ r).map byt) .ro) := by
 refine ACalls.fin (clash_nodeText.go ?_)
 unfold clash_nodeText.sh
 have h1 := hl.len
 have h2 := hr.len
 repeat' (with_reducible first|apply Stp.go|refine imp fun _=>?_|refine zq ?_|refine zt ?_|refine zf ?_|refine zg ?_|refine za ?_|refine altF ?_|refine all fun _=>?_|refine both ?_ ?_|refine zu ?_|refine zv ?_|refine cho (fun _=>?_) fun _=>?_|refine zw ?_)
 exact ⟨_, _, _, rfl, retOwn (Sub.app_nil _), rfl, rfl⟩
instance {l r : List UInt8} [hl : Len32 l] [hr : Len32 r] : PC Tryz.prog 96 [dgA l, dgA r] True (.lst 1 (([1] ++ l ++ r).map byt) .ro) := ⟨fun _ => PC.of (nodeText_ok l r)⟩
theorem chalf_ok (n : Nat) (hn : n ≤ 9223372036854775807) : aPure Tryz.prog 95 [I .i64 (n : Nat)] (I .i64 (halfN n : Nat)) := by
 refine clash_half.go ?_
 unfold clash_half.sh
 repeat' (with_reducible first|apply Stp.go|refine imp fun _=>?_|refine zq ?_|refine zt ?_|refine zf ?_|refine zg ?_|refine za ?_|refine altF ?_|refine all fun _=>?_|refine both ?_ ?_|refine zu ?_|refine zv ?_|refine cho (fun _=>?_) fun _=>?_|refine zw ?_)
 refine loopI (β := Nat) (fun k => 0 < k ∧ (k = 1 ∨ k ≤ n) ∧ halfGo n k = halfN n) (fun k => [I .i64 (n : Nat), I .i64 (k : Nat)]) (fun _ => []) (fun k => n - k) 1 ⟨by omega, by omega, rfl⟩ (Sub.refl _ _) ?_
 rintro k ⟨h1, h2, h3⟩
 dsimp only at h1 h2 h3 ⊢
 repeat' (with_reducible first|apply Stp.go|refine imp fun _=>?_|refine zq ?_|refine zt ?_|refine zf ?_|refine zg ?_|refine za ?_|refine altF ?_|refine all fun _=>?_|refine both ?_ ?_|refine zu ?_|refine zv ?_|refine cho (fun _=>?_) fun _=>?_|refine zw ?_)
 ·rename_i h4
  have e : halfGo n k = halfGo n (k * 2) := by
   conv => lhs; unfold halfGo
   rw [dif_pos ⟨h1, by omega⟩]
  exact again (k * 2) (by omega) ⟨by omega, by omega, e.symm.trans h3⟩ (Sub.refl _ _)
 ·rename_i h4
  have e : halfGo n k = k := by
   unfold halfGo
   rw [dif_neg (by omega)]
  rw [← h3, e]
  exact ⟨rfl, rfl⟩
instance clHalf {n : Nat} : PC Tryz.prog 95 [I .i64 (n : Nat)] (n ≤ 9223372036854775807) (I .i64 (halfN n : Nat)) := ⟨fun hl => PC.of (chalf_ok n hl)⟩
abbrev foundV (x y : List UInt8) : AV := .ifc 167 (.agg [.lst 1 (x.map byt) .ro, .lst 1 (y.map byt) .ro])
theorem compare_ok (x y : List UInt8) : ACalls Tryz.prog 98 [.lst 1 (x.map byt) .ro, .lst 1 (y.map byt) .ro] [] fun r σ' => (x = y ∧ r = .ret (.tuple []) ∧ σ' = []) ∨ (¬ x = y ∧ r = .pan (foundV x y) ∧ σ' = []) := by
 refine clash_compare.go ?_
 unfold clash_compare.sh
 by_cases h : x = y
 ·repeat' (with_reducible first|apply Stp.go|refine imp fun _=>?_|refine zq ?_|refine zt ?_|refine zf ?_|refine zg ?_|refine za ?_|refine altF ?_|refine all fun _=>?_|refine both ?_ ?_|refine zu ?_|refine zv ?_|refine cho (fun _=>?_) fun _=>?_|refine zw ?_)
  exact .inl ⟨h, rfl, rfl⟩
 ·repeat' (with_reducible first|apply Stp.go|refine imp fun _=>?_|refine zq ?_|refine zt ?_|refine zf ?_|refine zg ?_|refine za ?_|refine altF ?_|refine all fun _=>?_|refine both ?_ ?_|refine zu ?_|refine zv ?_|refine cho (fun _=>?_) fun _=>?_|refine zw ?_)
  exact .inr ⟨h, rfl, rfl⟩
instance {x y : List UInt8} {σ : Store} : QC Tryz.prog 98 [.lst 1 (x.map byt) .ro, .lst 1 (y.map byt) .ro] σ True (x = y) (.tuple []) σ (foundV x y) σ := ⟨fun _ => ((compare_ok x y).frame σ).mono fun r τ ⟨σ1, e1, _, h⟩ => by
 rcases h with ⟨h, e2, e3⟩ | ⟨h, e2, e3⟩
 ·exact .inl ⟨h, e2, by rw [e1, e3]; rfl⟩
 ·exact .inr ⟨h, e2, by rw [e1, e3]; rfl⟩⟩
end Go.Ab

namespace Go.Ab
open Go.Proofs
def isStrT (P : Program) (t : TypeId) : Bool := match P.underlying t with
 | some (.struct _) => true
 | _ => false
theorem conT_of {P : Program} {t : TypeId} (h : isStrT P t = true) : ConT P t := ⟨by
 unfold isStrT at h
 split at h
 ·rename_i fs e
  rw [e]; trivial
 ·cases h⟩
abbrev FoT : TypeId := 167
instance : ConT Tryz.prog FoT := conT_of (by kernel_rfl)
instance : IfT Tryz.prog 20 := ⟨by kernel_rfl⟩
def clash_seek.mark : Mark := ⟨fun t => false, fun t => false, fun t => false, fun t => false, fun t => false⟩
def clash_seek.ann : Ann := ⟨fun n => [], fun n => none, fun n => none⟩
def clash_seek.sh (a0 : AV) (σ : Store) (Q : AEnd → Store → Prop) : Prop :=
 aNewVar 63 [.val (.slice none 0 0)] σ fun t2 σ =>
 aNewVar 63 [.val (.slice none 0 0)] σ fun t3 σ_1 =>
 aNewVar 4 [.val (.bool false)] σ_1 fun t4 σ_2 =>
 capU [t2, t3, t4] fun cs =>
 aCallV Tryz.prog a0 [] σ_2 (fun t7 σ_3 =>
 storeA 1 t2 (.val (.slice none 0 0)) σ_3 fun u σ_4 =>
 storeA 1 t3 (.val (.slice none 0 0)) σ_4 fun u_1 σ_5 =>
 storeA 1 t4 (.val (.bool false)) σ_5 fun u_2 σ_6 =>
 DCalls Tryz.prog 129 cs none σ_6 fun σ_7 => Do (loadA false 1 t2 σ_7) fun r2 => Do (loadA false 1 t3 σ_7) fun r3 => Do (loadA false 1 t4 σ_7) fun r4 => Q (.ret (.tuple [r2, r3, r4])) σ_7) (fun e σ_8 => DCalls Tryz.prog 129 cs (some e) σ_8 fun σ_9 => Do (loadA false 1 t2 σ_9) fun r2_1 => Do (loadA false 1 t3 σ_9) fun r3_1 => Do (loadA false 1 t4 σ_9) fun r4_1 => Q (.ret (.tuple [r2_1, r3_1, r4_1])) σ_9)
theorem clash_seek.eq (a0 : AV) (σ : Store) (Q : AEnd → Store → Prop) : vc (semOf Tryz.prog clash_seek.mark) Tryz.f99.ntmps clash_seek.ann (c1 (bodyOf Tryz.f99)) (midD (semOf Tryz.prog clash_seek.mark) Tryz.f99.ntmps clash_seek.ann (c2 (c2 (bodyOf Tryz.f99))) 129 [2, 3, 4] 5 [.cell 2 false 1, .cell 3 false 1, .cell 4 false 1] Q) (argFr [a0]) σ = clash_seek.sh a0 σ Q := by kernel_rfl
theorem clash_seek.r1 : ∃ id ty pos after ty2 pos2 after2, c1 (c2 (bodyOf Tryz.f99)) = deferR 129 5 [2, 3, 4] id ty pos after ty2 pos2 after2 := ⟨1, 1, "clash.go:22", #[], 0, "clash.go:22", #[⟨0, .data⟩], by kernel_rfl⟩
set_option maxRecDepth 100000 in
theorem clash_seek.go {a0 : AV} {σ : Store} {Q : AEnd → Store → Prop} (h : clash_seek.sh a0 σ Q) : ACalls Tryz.prog 99 [a0] σ Q := by
 rw [← clash_seek.eq a0 σ Q] at h
 exact acalls_defer (S := semOf Tryz.prog clash_seek.mark) (A := clash_seek.ann) (fn := Tryz.f99) (g := 129) [.cell 2 false 1, .cell 3 false 1, .cell 4 false 1] [2, 3, 4] 5 Tryz.func99 (by kernel_rfl) (by kernel_rfl) (by kernel_rfl) (by kernel_rfl) (by kernel_rfl) clash_seek.r1 ⟨_, bodyOf Tryz.f129, Tryz.func129, by kernel_rfl, by kernel_rfl⟩ h
def clash_seek_1.mark : Mark := ⟨fun t => false, fun t => false, fun t => false, fun t => false, fun t => false⟩
def clash_seek_1.ann : Ann := ⟨fun n => [], fun n => none, fun n => bif Nat.beq n 7 then some [] else none⟩
def clash_seek_1.sh (a0 a1 a2 u : AV) (σ : Store) (Q : Store → Prop) : Prop :=
 Do (aBin Tryz.prog .eql 20 u (.val .nilIface)) fun t8 =>
 aCond t8
 (Q σ)
 (Do (aAssert Tryz.prog 167 true u) fun t9 =>
 Do (aExt t9 1) fun t10 =>
 Do (aExt t9 0) fun t11 =>
 aCond t10
 (aNewVar 167 [.val (.slice none 0 0), .val (.slice none 0 0)] σ fun t4 σ =>
 storeA 2 t4 t11 σ fun u σ_1 =>
 aJoin (fun j =>
 Do (aFieldAddr 0 1 t4) fun t12 =>
 Do (loadA false 1 t12 σ_1) fun t13 =>
 Do (aFieldAddr 1 1 t4) fun t14 =>
 Both (Do (loadA false 1 t14 σ_1) fun t15 =>
 storeA 1 a0 t13 σ_1 fun u_1 σ_3 =>
 storeA 1 a1 t15 σ_3 fun u_2 σ_4 =>
 storeA 1 a2 (.val (.bool true)) σ_4 fun u_3 σ_5 =>
 j [] σ_5) (storeA 1 a0 t13 σ_1 fun u_4 σ_6 =>
 Do (loadA false 1 t14 σ_6) fun t15_1 =>
 storeA 1 a1 t15_1 σ_6 fun u_5 σ_7 =>
 storeA 1 a2 (.val (.bool true)) σ_7 fun u_6 σ_8 =>
 j [] σ_8)) fun vs σ_2 =>
 Q σ_2)
 (aPanic u σ (fun e σ_10 => False)))
theorem clash_seek_1.eq (a0 a1 a2 u : AV) (σ : Store) (Q : Store → Prop) : vc (semOf Tryz.prog clash_seek_1.mark) Tryz.f129.ntmps clash_seek_1.ann (c2 (bodyOf Tryz.f129)) (endR Q) (fun t => bif Nat.beq t 6 then u else argFr [a0, a1, a2] t) σ = clash_seek_1.sh a0 a1 a2 u σ Q := by kernel_rfl
theorem clash_seek_1.r0 : ∃ id ty pos after, c1 (bodyOf Tryz.f129) = recoverR 6 id ty pos after := ⟨_, _, _, _, rfl⟩
theorem clash_seek_1.go {v0 v1 v2 : Value} {m : Option AV} {σ : Store} {Q : Store → Prop} (h : clash_seek_1.sh (.val v0) (.val v1) (.val v2) (recU m) σ Q) : DCalls Tryz.prog 129 [v0, v1, v2] m σ Q :=
 dcalls_rec 6 Tryz.func129 (by kernel_rfl) (by kernel_rfl) (by kernel_rfl) (by kernel_rfl) clash_seek_1.r0 ((clash_seek_1.eq (.val v0) (.val v1) (.val v2) (recU m) σ Q).mpr h)
instance dcNoneS {v0 v1 v2 : Value} {σ : Store} {Q : Store → Prop} : Stp (DCalls Tryz.prog 129 [v0, v1, v2] none σ Q) (Q σ) := ⟨fun h => by
 refine clash_seek_1.go ?_
 unfold clash_seek_1.sh
 unfold recU
 repeat' (with_reducible first|apply Stp.go|refine imp fun _=>?_|refine zq ?_|refine zt ?_|refine zf ?_|refine zg ?_|refine za ?_|refine altF ?_|refine all fun _=>?_|refine both ?_ ?_|refine zu ?_|refine zv ?_|refine cho (fun _=>?_) fun _=>?_|refine zw ?_)
 exact h⟩
instance dcFound {b1 b2 b3 : Nat} {t1 t2 t3 : TypeId} {x1 x2 x3 : AV} {x y : List UInt8} {σ rest1 rest2 rest3 : Store} {put1 put2 put3 : Ent → Store} {Q : Store → Prop} [h1 : VarAt b1 σ t1 [x1] put1 rest1] [h2 : VarAt b2 (put1 (.var b1 t1 [.lst 1 (x.map byt) .ro])) t2 [x2] put2 rest2] [h3 : VarAt b3 (put2 (.var b2 t2 [.lst 1 (y.map byt) .ro])) t3 [x3] put3 rest3] :
  Stp (DCalls Tryz.prog 129 [.pointer (some ⟨b1, 0, none⟩), .pointer (some ⟨b2, 0, none⟩), .pointer (some ⟨b3, 0, none⟩)] (some (foundV x y)) σ Q) (All fun b => Q (.var b FoT [.lst 1 (x.map byt) .ro, .lst 1 (y.map byt) .ro] :: put3 (.var b3 t3 [.val (.bool true)]))) := ⟨fun h => by
 refine clash_seek_1.go ?_
 unfold clash_seek_1.sh
 unfold recU
 repeat' (with_reducible first|apply Stp.go|refine imp fun _=>?_|refine zq ?_|refine zt ?_|refine zf ?_|refine zg ?_|refine za ?_|refine altF ?_|refine all fun _=>?_|refine both ?_ ?_|refine zu ?_|refine zv ?_|refine cho (fun _=>?_) fun _=>?_|refine zw ?_)
 refine joinE ?_
 repeat' (with_reducible first|apply Stp.go|refine imp fun _=>?_|refine zq ?_|refine zt ?_|refine zf ?_|refine zg ?_|refine za ?_|refine altF ?_|refine all fun _=>?_|refine both ?_ ?_|refine zu ?_|refine zv ?_|refine cho (fun _=>?_) fun _=>?_|refine zw ?_)
 all_goals
  rename_i b
  exact h b⟩
theorem seek_ok (g : FuncId) (caps : List AV) (σ : Store) (ok : Prop) (x y : List UInt8) (hcl : ACalls Tryz.prog g caps σ fun r σ' => (ok ∧ r = .ret (.tuple []) ∧ σ' = σ) ∨ (¬ ok ∧ r = .pan (foundV x y) ∧ σ' = σ)) :
  ACalls Tryz.prog 99 [.fn (.func g) [] caps] σ fun r σ' => (ok ∧ r = .ret (.tuple [.lst 1 (([] : List UInt8).map byt) .ro, .lst 1 (([] : List UInt8).map byt) .ro, B false]) ∧ σ' = σ) ∨ (¬ ok ∧ r = .ret (.tuple [.lst 1 (x.map byt) .ro, .lst 1 (y.map byt) .ro, B true]) ∧ σ' = σ) := by
 refine ACalls.fin (clash_seek.go ?_)
 unfold clash_seek.sh
 repeat' (with_reducible first|apply Stp.go|refine imp fun _=>?_|refine zq ?_|refine zt ?_|refine zf ?_|refine zg ?_|refine za ?_|refine altF ?_|refine all fun _=>?_|refine both ?_ ?_|refine zu ?_|refine zv ?_|refine cho (fun _=>?_) fun _=>?_|refine zw ?_)
 rename_i b2 b3 b4
 refine Or.inl ⟨σ ++ [.var b4 4 [AV.val (Value.bool false)], .var b3 63 [AV.val (Value.slice none 0 0)], .var b2 63 [AV.val (Value.slice none 0 0)]], _, Sub.perm (List.perm_append_comm (l₁ := [_, _, _])) _, (hcl.frame _).mono ?_⟩
 rintro r τ ⟨σ1, e1, _, h⟩
 rcases h with ⟨h, e2, e3⟩ | ⟨h, e2, e3⟩
 ·rw [e2, e1, e3]
  show onEnd _ _ (.ret _) _
  simp only [onEnd]
  repeat' (with_reducible first|apply Stp.go|refine imp fun _=>?_|refine zq ?_|refine zt ?_|refine zf ?_|refine zg ?_|refine za ?_|refine altF ?_|refine all fun _=>?_|refine both ?_ ?_|refine zu ?_|refine zv ?_|refine cho (fun _=>?_) fun _=>?_|refine zw ?_)
  exact ⟨_, _, _, rfl, Sub.tuple (retNil byt (by decide) (retNil byt (by decide) (Sub.drop_ (List.sublist_append_left _ _) _))), .inl ⟨h, rfl, rfl⟩⟩
 ·rw [e2, e1, e3]
  simp only [onEnd]
  repeat' (with_reducible first|apply Stp.go|refine imp fun _=>?_|refine zq ?_|refine zt ?_|refine zf ?_|refine zg ?_|refine za ?_|refine altF ?_|refine all fun _=>?_|refine both ?_ ?_|refine zu ?_|refine zv ?_|refine cho (fun _=>?_) fun _=>?_|refine zw ?_)
  exact ⟨_, _, _, rfl, Sub.drop_ ((List.sublist_append_left _ _).cons _) _, .inr ⟨h, rfl, rfl⟩⟩
end Go.Ab

namespace Go.Ab
open Go.Proofs
def popD (s : List D32 × Bool) : D32 × (List D32 × Bool) := match s with
 | ([], _) => (⟨zeroD, Len32.len⟩, ([], true))
 | (x :: xs, c) => (x, (xs, c))
def rootR (b : Int) (part : List (List UInt8)) (cnt : Nat) (p : Int) (s : List D32 × Bool) : D32 × (List D32 × Bool) :=
 if p + part.length ≤ 0 ∨ (cnt : Int) ≤ p then popD s
 else if h : cnt ≤ 1 then (⟨leafD b (part.getD (-p).toNat default), Len32.len⟩, s)
 else
  let x := rootR b part (halfN cnt) p s
  let y := rootR b part (cnt - halfN cnt) (p - halfN cnt) x.2
  (⟨nodeD b x.1.val y.1.val, Len32.len⟩, y.2)
termination_by cnt
decreasing_by
 ·have := halfN_lt (n := cnt) (by omega); omega
 ·have := halfN_lt (n := cnt) (by omega); omega
theorem popD_le (s : List D32 × Bool) : (popD s).2.1.length ≤ s.1.length := by
 unfold popD
 split <;> simp
section rootR
variable {b : Int} {part : List (List UInt8)} {cnt : Nat} {p : Int} {s : List D32 × Bool}
theorem rootR_out (h : p + part.length ≤ 0 ∨ (cnt : Int) ≤ p) : rootR b part cnt p s = popD s := by unfold rootR; rw [if_pos h]
theorem rootR_one (h : ¬ (p + part.length ≤ 0 ∨ (cnt : Int) ≤ p)) (h1 : cnt ≤ 1) : rootR b part cnt p s = (⟨leafD b (part.getD (-p).toNat default), Len32.len⟩, s) := by unfold rootR; rw [if_neg h, dif_pos h1]
theorem rootR_two (h : ¬ (p + part.length ≤ 0 ∨ (cnt : Int) ≤ p)) (h1 : ¬ cnt ≤ 1) : rootR b part cnt p s = (⟨nodeD b (rootR b part (halfN cnt) p s).1.val (rootR b part (cnt - halfN cnt) (p - halfN cnt) (rootR b part (halfN cnt) p s).2).1.val, Len32.len⟩, (rootR b part (cnt - halfN cnt) (p - halfN cnt) (rootR b part (halfN cnt) p s).2).2) := by
 conv => lhs; unfold rootR
 rw [if_neg h, dif_neg h1]
theorem bsD_out {L : List (List UInt8)} {q : Int} (h : q ≤ 0 ∨ (L.length : Int) ≤ p) : bsD b L p q = [rootF b L] := by unfold bsD; rw [if_pos h]
theorem bsD_one {L : List (List UInt8)} {q : Int} (h : ¬ (q ≤ 0 ∨ (L.length : Int) ≤ p)) (h1 : L.length ≤ 1) : bsD b L p q = [] := by unfold bsD; rw [if_neg h, dif_pos h1]
theorem bsD_two {L : List (List UInt8)} {q : Int} (h : ¬ (q ≤ 0 ∨ (L.length : Int) ≤ p)) (h1 : ¬ L.length ≤ 1) : bsD b L p q = bsD b (L.take (halfN L.length)) p q ++ bsD b (L.drop (halfN L.length)) (p - (halfN L.length : Nat)) (q - (halfN L.length : Nat)) := by
 conv => lhs; unfold bsD
 rw [if_neg h, dif_neg h1]
end rootR
theorem rootR_le (b : Int) (part : List (List UInt8)) : ∀ (n cnt : Nat) (p : Int) (s : List D32 × Bool), cnt = n → (rootR b part cnt p s).2.1.length ≤ s.1.length := by
 intro n
 induction n using Nat.strongRecOn with
 | _ n ih =>
  intro cnt p s hn
  unfold rootR
  split
  ·exact popD_le s
  ·split
   ·exact Nat.le_refl _
   ·have hh := halfN_lt (n := cnt) (by omega)
    have i1 := ih (halfN cnt) (by omega) _ p s rfl
    have i2 := ih (cnt - halfN cnt) (by omega) _ (p - halfN cnt) (rootR b part (halfN cnt) p s).2 rfl
    exact Nat.le_trans i2 i1
theorem rootR_bad (b : Int) (part : List (List UInt8)) : ∀ (n cnt : Nat) (p : Int) (path : List D32), cnt = n → (rootR b part cnt p (path, true)).2.2 = true := by
 intro n
 induction n using Nat.strongRecOn with
 | _ n ih =>
  intro cnt p path hn
  by_cases h : p + part.length ≤ 0 ∨ (cnt : Int) ≤ p
  ·rw [rootR_out h]
   cases path <;> rfl
  ·by_cases h1 : cnt ≤ 1
   ·rw [rootR_one h h1]
   ·have hh := halfN_lt (n := cnt) (by omega)
    rw [rootR_two h h1]
    obtain ⟨d1, q1, c1, hX⟩ : ∃ d1 q1 c1, rootR b part (halfN cnt) p (path, true) = (d1, q1, c1) := ⟨_, _, _, rfl⟩
    have i1 := ih (halfN cnt) (by omega) (halfN cnt) p path rfl
    rw [hX] at i1 ⊢
    have i1 : c1 = true := i1
    subst i1
    exact ih (cnt - halfN cnt) (by omega) (cnt - halfN cnt) (p - halfN cnt) q1 rfl
theorem rootR_bs (b : Int) (part : List (List UInt8)) : ∀ (n : Nat) (L : List (List UInt8)) (p : Int) (rest : List D32) (c : Bool), L.length = n → 0 < n → (∀ j : Nat, j < n → p ≤ j → (j : Int) < p + part.length → part.getD ((j : Int) - p).toNat default = L.getD j default) →
  rootR b part n p (bsD b L p (p + part.length) ++ rest, c) = (rootF b L, rest, c) := by
 intro n
 induction n using Nat.strongRecOn with
 | _ n ih =>
  intro L p rest c hn h0 hp
  by_cases h1 : p + part.length ≤ 0 ∨ (n : Int) ≤ p
  ·rw [rootR_out h1, bsD_out (by omega)]
   rfl
  ·by_cases h2 : n ≤ 1
   ·rw [rootR_one h1 h2, bsD_one (by omega) (by omega)]
    have h3 := hp 0 (by omega) (by omega) (by omega)
    have e3 : rootD b L = leafD b (L.getD 0 default) := by unfold rootD; rw [dif_neg (by omega), dif_pos (by omega)]
    have e4 : (-p).toNat = ((0 : Nat) - p : Int).toNat := by congr 1; omega
    have e5 : part.getD (-p).toNat default = L.getD 0 default := by rw [e4]; exact h3
    have e6 : (⟨leafD b (part.getD (-p).toNat default), Len32.len⟩ : D32) = rootF b L := by simp only [rootF, e3, e5]
    rw [e6, List.nil_append]
   ·rw [rootR_two h1 h2, bsD_two (by omega) (by omega)]
    have hh := halfN_lt (n := n) (by omega)
    have l1 : (L.take (halfN n)).length = halfN n := by rw [List.length_take]; omega
    have l2 : (L.drop (halfN n)).length = n - halfN n := by rw [List.length_drop, hn]
    have e3 : rootD b L = nodeD b (rootD b (L.take (halfN n))) (rootD b (L.drop (halfN n))) := by
     conv => lhs; unfold rootD
     rw [dif_neg (by omega), dif_neg (by omega), hn]
    have q1 := ih (halfN n) hh.2 (L.take (halfN n)) p (bsD b (L.drop (halfN n)) (p - (halfN n : Nat)) (p + part.length - (halfN n : Nat)) ++ rest) c l1 hh.1 (fun j h3 h4 h5 => by
     rw [hp j (by omega) h4 h5, List.getD_eq_getElem?_getD, List.getD_eq_getElem?_getD, List.getElem?_take, if_pos h3])
    have q2 := ih (n - halfN n) (by omega) (L.drop (halfN n)) (p - (halfN n : Nat)) rest c l2 (by omega) (fun j h3 h4 h5 => by
     have h6 := hp (halfN n + j) (by omega) (by omega) (by omega)
     have e6 : ((halfN n + j : Nat) : Int) - p = (j : Int) - (p - (halfN n : Nat)) := by omega
     rw [e6] at h6
     rw [h6, List.getD_eq_getElem?_getD, List.getD_eq_getElem?_getD, List.getElem?_drop])
    have e5 : p - (halfN n : Nat) + part.length = p + part.length - (halfN n : Nat) := by omega
    rw [e5] at q2
    rw [hn, List.append_assoc]
    simp only [q1, q2, rootF, e3]
theorem bsD_all (b : Int) : ∀ (n : Nat) (L : List (List UInt8)) (p q : Int), L.length = n → 0 < n → p ≤ 0 → (n : Int) ≤ q → bsD b L p q = [] := by
 intro n
 induction n using Nat.strongRecOn with
 | _ n ih =>
  intro L p q hn h0 h1 h2
  unfold bsD
  rw [if_neg (by omega)]
  split
  ·rfl
  ·rename_i h
   have hh := halfN_lt (n := n) (by omega)
   have l1 : (L.take (halfN n)).length = halfN n := by rw [List.length_take]; omega
   have l2 : (L.drop (halfN n)).length = n - halfN n := by rw [List.length_drop, hn]
   rw [hn, ih (halfN n) hh.2 _ p q l1 hh.1 h1 (by omega), ih (n - halfN n) (by omega) _ _ _ l2 (by omega) (by omega) (by omega)]
   rfl
def checkR (b : Int) (root : D32) (cnt p : Int) (part : List (List UInt8)) (path : List D32) : Bool :=
 decide (0 < part.length ∧ 0 ≤ p ∧ (part.length : Int) ≤ cnt ∧ p ≤ cnt - part.length) &&
  ((!(rootR b part cnt.toNat p (path, false)).2.2 && decide ((rootR b part cnt.toNat p (path, false)).2.1.length = 0)) && decide ((rootR b part cnt.toNat p (path, false)).1.val = root.val))
instance (priority := 80) negN {P : Program} {a : Nat} {K : AV → Prop} : Stp (Do (aUn P .neg (.val (.int .i64 (-((a : Nat) : Int))))) K) (Need (a ≤ 9223372036854775807) (K (.val (.int .i64 ((a : Nat) : Int))))) := ⟨fun ⟨h, hK⟩ => by
 refine ⟨.val (.int .i64 (IntKind.wrap .i64 (- -((a : Nat) : Int)))), ⟨_, rfl, fun w => by simp [Op.unary, Op.intArith]⟩, ?_⟩
 rw [Int.neg_neg, wrap_i64 (by omega) (by omega)]
 exact hK⟩
abbrev OpT : TypeId := 163
abbrev opn4 (b : Int) (part : List (List UInt8)) (m : SM) (q : List D32) (c : Bool) : List AV := [I .i64 b, .lst 1 (part.map bl) m, .lst 32 (q.map dgF) .ro, B c]
instance (priority := 2000) litZ32 {offs : List (Nat × Nat)} {K : AV → Prop} : Stp (Do (aLit [.val (.int .u8 0), .val (.int .u8 0), .val (.int .u8 0), .val (.int .u8 0), .val (.int .u8 0), .val (.int .u8 0), .val (.int .u8 0), .val (.int .u8 0), .val (.int .u8 0), .val (.int .u8 0), .val (.int .u8 0), .val (.int .u8 0), .val (.int .u8 0), .val (.int .u8 0), .val (.int .u8 0), .val (.int .u8 0), .val (.int .u8 0), .val (.int .u8 0), .val (.int .u8 0), .val (.int .u8 0), .val (.int .u8 0), .val (.int .u8 0), .val (.int .u8 0), .val (.int .u8 0), .val (.int .u8 0), .val (.int .u8 0), .val (.int .u8 0), .val (.int .u8 0), .val (.int .u8 0), .val (.int .u8 0), .val (.int .u8 0), .val (.int .u8 0)] offs []) K) (K (dgA zeroD)) := ⟨fun hK => ⟨_, ⟨(fun p hp => by cases hp), [.val (.int .u8 0), .val (.int .u8 0), .val (.int .u8 0), .val (.int .u8 0), .val (.int .u8 0), .val (.int .u8 0), .val (.int .u8 0), .val (.int .u8 0), .val (.int .u8 0), .val (.int .u8 0), .val (.int .u8 0), .val (.int .u8 0), .val (.int .u8 0), .val (.int .u8 0), .val (.int .u8 0), .val (.int .u8 0), .val (.int .u8 0), .val (.int .u8 0), .val (.int .u8 0), .val (.int .u8 0), .val (.int .u8 0), .val (.int .u8 0), .val (.int .u8 0), .val (.int .u8 0), .val (.int .u8 0), .val (.int .u8 0), .val (.int .u8 0), .val (.int .u8 0), .val (.int .u8 0), .val (.int .u8 0), .val (.int .u8 0), .val (.int .u8 0)], rfl, rfl⟩, hK⟩⟩
def tree_opening_root.mark : Mark := ⟨fun t => false, fun t => false, fun t => false, fun t => Nat.beq t 39 || Nat.beq t 63, fun t => false⟩
def tree_opening_root.ann : Ann := ⟨fun n => [], fun n => none, fun n => bif Nat.beq n 12 then some [6] else none⟩
def tree_opening_root.sh (a0 a1 a2 : AV) (σ : Store) (Q : AEnd → Store → Prop) : Prop :=
 aNewVar 56 [.val (.int .u8 0), .val (.int .u8 0), .val (.int .u8 0), .val (.int .u8 0), .val (.int .u8 0), .val (.int .u8 0), .val (.int .u8 0), .val (.int .u8 0), .val (.int .u8 0), .val (.int .u8 0), .val (.int .u8 0), .val (.int .u8 0), .val (.int .u8 0), .val (.int .u8 0), .val (.int .u8 0), .val (.int .u8 0), .val (.int .u8 0), .val (.int .u8 0), .val (.int .u8 0), .val (.int .u8 0), .val (.int .u8 0), .val (.int .u8 0), .val (.int .u8 0), .val (.int .u8 0), .val (.int .u8 0), .val (.int .u8 0), .val (.int .u8 0), .val (.int .u8 0), .val (.int .u8 0), .val (.int .u8 0), .val (.int .u8 0), .val (.int .u8 0)] σ fun t6 σ =>
 Do (aNil a0) fun t13 =>
 Do (aFieldAddr 1 1 t13) fun t14 =>
 Do (loadA false 1 t14 σ) fun t15 =>
 Do (aBuiltin Tryz.prog .len #[66] [t15]) fun t16 =>
 Do (aBin Tryz.prog .add 3 a2 t16) fun t17 =>
 Do (aBin Tryz.prog .leq 3 t17 (.val (.int .i64 0))) fun t18 =>
 Do (aGuard t18 false (aIs a2)) fun t20 =>
 Do (aGuard t18 false (aIs a1)) fun t21 =>
 Do (aGuard t18 false (aBin Tryz.prog .geq 3 t20 t21)) fun t22 =>
 Do (aPick t18 (.val (.bool true)) t22) fun t23 =>
 aCond t23
 (Do (aNil a0) fun t25 =>
 Do (aFieldAddr 2 1 t25) fun t26 =>
 Do (loadA false 1 t26 σ) fun t27 =>
 Do (aBuiltin Tryz.prog .len #[125] [t27]) fun t28 =>
 Do (aBin Tryz.prog .eql 3 t28 (.val (.int .i64 0))) fun t29 =>
 aCond t29
 (Do (aNil a0) fun t31 =>
 Do (aFieldAddr 3 1 t31) fun t32 =>
 storeA 1 t32 (.val (.bool true)) σ fun u σ_1 =>
 Do (aLit [.val (.int .u8 0), .val (.int .u8 0), .val (.int .u8 0), .val (.int .u8 0), .val (.int .u8 0), .val (.int .u8 0), .val (.int .u8 0), .val (.int .u8 0), .val (.int .u8 0), .val (.int .u8 0), .val (.int .u8 0), .val (.int .u8 0), .val (.int .u8 0), .val (.int .u8 0), .val (.int .u8 0), .val (.int .u8 0), .val (.int .u8 0), .val (.int .u8 0), .val (.int .u8 0), .val (.int .u8 0), .val (.int .u8 0), .val (.int .u8 0), .val (.int .u8 0), .val (.int .u8 0), .val (.int .u8 0), .val (.int .u8 0), .val (.int .u8 0), .val (.int .u8 0), .val (.int .u8 0), .val (.int .u8 0), .val (.int .u8 0), .val (.int .u8 0)] [(0, 1), (1, 1), (2, 1), (3, 1), (4, 1), (5, 1), (6, 1), (7, 1), (8, 1), (9, 1), (10, 1), (11, 1), (12, 1), (13, 1), (14, 1), (15, 1), (16, 1), (17, 1), (18, 1), (19, 1), (20, 1), (21, 1), (22, 1), (23, 1), (24, 1), (25, 1), (26, 1), (27, 1), (28, 1), (29, 1), (30, 1), (31, 1)] []) fun t33 =>
 storeA 32 t6 t33 σ_1 fun u_1 σ_2 =>
 Do (loadA true 32 t6 σ_2) fun r6 => Q (.ret r6) σ_2)
 (Do (aNil a0) fun t35 =>
 Do (aFieldAddr 2 1 t35) fun t36 =>
 Do (loadA false 1 t36 σ) fun t37 =>
 Do (aIndexAddr .slice 32 t37 (.val (.int .i64 0))) fun t38 =>
 Do (loadF true 32 t38) fun t39 =>
 aNewVar 56 [.val (.int .u8 0), .val (.int .u8 0), .val (.int .u8 0), .val (.int .u8 0), .val (.int .u8 0), .val (.int .u8 0), .val (.int .u8 0), .val (.int .u8 0), .val (.int .u8 0), .val (.int .u8 0), .val (.int .u8 0), .val (.int .u8 0), .val (.int .u8 0), .val (.int .u8 0), .val (.int .u8 0), .val (.int .u8 0), .val (.int .u8 0), .val (.int .u8 0), .val (.int .u8 0), .val (.int .u8 0), .val (.int .u8 0), .val (.int .u8 0), .val (.int .u8 0), .val (.int .u8 0), .val (.int .u8 0), .val (.int .u8 0), .val (.int .u8 0), .val (.int .u8 0), .val (.int .u8 0), .val (.int .u8 0), .val (.int .u8 0), .val (.int .u8 0)] σ fun t7 σ_3 =>
 storeA 32 t7 t39 σ_3 fun u_2 σ_4 =>
 Do (aNil a0) fun t42 =>
 Do (aFieldAddr 2 1 t42) fun t43 =>
 Do (loadA false 1 t43 σ_4) fun t44 =>
 Do (aSlice .slice 32 t44 (some (.val (.int .i64 1))) none none) fun t45 =>
 Do (aNil a0) fun t46 =>
 Do (aFieldAddr 2 1 t46) fun t47 =>
 storeA 1 t47 t45 σ_4 fun u_3 σ_5 =>
 Do (loadA true 32 t7 σ_5) fun t48 =>
 storeA 32 t6 t48 σ_5 fun u_4 σ_6 =>
 Do (loadA true 32 t6 σ_6) fun r6_1 => Q (.ret r6_1) σ_6))
 (Do (aBin Tryz.prog .eql 3 a1 (.val (.int .i64 1))) fun t51 =>
 aCond t51
 (Do (aNil a0) fun t53 =>
 Do (aFieldAddr 0 1 t53) fun t54 =>
 Do (loadA true 1 t54 σ) fun t55 =>
 Do (aNil a0) fun t57 =>
 Do (aFieldAddr 1 1 t57) fun t58 =>
 Do (aUn Tryz.prog .neg a2) fun t61 =>
 Do (loadA false 1 t58 σ) fun t59 =>
 Do (aIndexAddr .slice 1 t59 t61) fun t62 =>
 Do (loadF false 1 t62) fun t63 =>
 aCall Tryz.prog 89 [t55, t63] σ (fun t64 σ_7 =>
 storeA 32 t6 t64 σ_7 fun u_5 σ_8 =>
 Do (loadA true 32 t6 σ_8) fun r6_2 => Q (.ret r6_2) σ_8) (fun e σ_9 => Q (.pan e) σ_9))
 (aCall Tryz.prog 90 [a1] σ (fun t66 σ_10 =>
 aCall Tryz.prog 127 [a0, t66, a2] σ_10 (fun t70 σ_11 =>
 aNewVar 56 [.val (.int .u8 0), .val (.int .u8 0), .val (.int .u8 0), .val (.int .u8 0), .val (.int .u8 0), .val (.int .u8 0), .val (.int .u8 0), .val (.int .u8 0), .val (.int .u8 0), .val (.int .u8 0), .val (.int .u8 0), .val (.int .u8 0), .val (.int .u8 0), .val (.int .u8 0), .val (.int .u8 0), .val (.int .u8 0), .val (.int .u8 0), .val (.int .u8 0), .val (.int .u8 0), .val (.int .u8 0), .val (.int .u8 0), .val (.int .u8 0), .val (.int .u8 0), .val (.int .u8 0), .val (.int .u8 0), .val (.int .u8 0), .val (.int .u8 0), .val (.int .u8 0), .val (.int .u8 0), .val (.int .u8 0), .val (.int .u8 0), .val (.int .u8 0)] σ_11 fun t9 σ_12 =>
 storeA 32 t9 t70 σ_12 fun u_6 σ_13 =>
 aJoin (fun j =>
 Do (aNil a0) fun t72 =>
 Do (aFieldAddr 0 1 t72) fun t73 =>
 Do (aBin Tryz.prog .sub 3 a1 t66) fun t79 =>
 Do (aBin Tryz.prog .sub 3 a2 t66) fun t82 =>
 Both (Do (loadA true 1 t73 σ_13) fun t74 =>
 Both (Do (loadA true 32 t9 σ_13) fun t75 =>
 aCall Tryz.prog 127 [a0, t79, t82] σ_13 (fun t83 σ_15 =>
 aCall Tryz.prog 91 [t74, t75, t83] σ_15 (fun t84 σ_16 =>
 storeA 32 t6 t84 σ_16 fun u_7 σ_17 =>
 j [t6] σ_17) (fun e_1 σ_18 => Q (.pan e_1) σ_18)) (fun e_2 σ_19 => Q (.pan e_2) σ_19)) (aCall Tryz.prog 127 [a0, t79, t82] σ_13 (fun t83_1 σ_20 =>
 Do (loadA true 32 t9 σ_20) fun t75_1 =>
 aCall Tryz.prog 91 [t74, t75_1, t83_1] σ_20 (fun t84_1 σ_21 =>
 storeA 32 t6 t84_1 σ_21 fun u_8 σ_22 =>
 j [t6] σ_22) (fun e_3 σ_23 => Q (.pan e_3) σ_23)) (fun e_4 σ_24 => Q (.pan e_4) σ_24))) (Both (Do (loadA true 32 t9 σ_13) fun t75_2 =>
 Both (Do (loadA true 1 t73 σ_13) fun t74_1 =>
 aCall Tryz.prog 127 [a0, t79, t82] σ_13 (fun t83_2 σ_25 =>
 aCall Tryz.prog 91 [t74_1, t75_2, t83_2] σ_25 (fun t84_2 σ_26 =>
 storeA 32 t6 t84_2 σ_26 fun u_9 σ_27 =>
 j [t6] σ_27) (fun e_5 σ_28 => Q (.pan e_5) σ_28)) (fun e_6 σ_29 => Q (.pan e_6) σ_29)) (aCall Tryz.prog 127 [a0, t79, t82] σ_13 (fun t83_3 σ_30 =>
 Do (loadA true 1 t73 σ_30) fun t74_2 =>
 aCall Tryz.prog 91 [t74_2, t75_2, t83_3] σ_30 (fun t84_3 σ_31 =>
 storeA 32 t6 t84_3 σ_31 fun u_10 σ_32 =>
 j [t6] σ_32) (fun e_7 σ_33 => Q (.pan e_7) σ_33)) (fun e_8 σ_34 => Q (.pan e_8) σ_34))) (aCall Tryz.prog 127 [a0, t79, t82] σ_13 (fun t83_4 σ_35 =>
 Do (loadA true 1 t73 σ_35) fun t74_3 =>
 Do (loadA true 32 t9 σ_35) fun t75_3 =>
 aCall Tryz.prog 91 [t74_3, t75_3, t83_4] σ_35 (fun t84_4 σ_36 =>
 storeA 32 t6 t84_4 σ_36 fun u_11 σ_37 =>
 j [t6] σ_37) (fun e_9 σ_38 => Q (.pan e_9) σ_38)) (fun e_10 σ_39 => Q (.pan e_10) σ_39)))) fun vs σ_14 =>
 At vs 0 fun s6 => Do (loadA true 32 s6 σ_14) fun r6_3 => Q (.ret r6_3) σ_14) (fun e_11 σ_40 => Q (.pan e_11) σ_40)) (fun e_12 σ_41 => Q (.pan e_12) σ_41)))
theorem tree_opening_root.eq (a0 a1 a2 : AV) (σ : Store) (Q : AEnd → Store → Prop) : vc (semOf Tryz.prog tree_opening_root.mark) Tryz.f127.ntmps tree_opening_root.ann (bodyOf Tryz.f127) (endK [.cell 6 true 32] Q) (argFr [a0, a1, a2]) σ = tree_opening_root.sh a0 a1 a2 σ Q := by kernel_rfl
theorem tree_opening_root.go {a0 a1 a2 : AV} {σ : Store} {Q : AEnd → Store → Prop} (h : tree_opening_root.sh a0 a1 a2 σ Q) : ACalls Tryz.prog 127 [a0, a1, a2] σ Q :=
 acalls_of_eq [.cell 6 true 32] Tryz.func127 (by kernel_rfl) (by kernel_rfl) (by kernel_rfl) (by kernel_rfl) (tree_opening_root.eq a0 a1 a2 σ Q) h
def tree_Tree_CheckRange.mark : Mark := ⟨fun t => false, fun t => false, fun t => Nat.beq t 6 || Nat.beq t 7, fun t => Nat.beq t 36 || Nat.beq t 60, fun t => false⟩
def tree_Tree_CheckRange.ann : Ann := ⟨fun n => [], fun n => none, fun n => none⟩
def tree_Tree_CheckRange.sh (a0 a1 a2 a3 a4 a5 : AV) (σ : Store) (Q : AEnd → Store → Prop) : Prop :=
 Do (aFreeze ((a0 : AV)).cells) fun t6 =>
 Do (aFreeze ((a1 : AV)).cells) fun t7 =>
 Do (aBuiltin Tryz.prog .len #[66] [a4]) fun t16 =>
 Do (aBin Tryz.prog .eql 3 t16 (.val (.int .i64 0))) fun t17 =>
 Do (aGuard t17 false (aIs a3)) fun t19 =>
 Do (aGuard t17 false (aBin Tryz.prog .lss 3 t19 (.val (.int .i64 0)))) fun t20 =>
 Do (aPick t17 (.val (.bool true)) t20) fun t21 =>
 Do (aGuard t21 false (aIs a2)) fun t23 =>
 Do (aGuard t21 false (aIs a4)) fun t24 =>
 Do (aGuard t21 false (aBuiltin Tryz.prog .len #[66] [t24])) fun t25 =>
 Do (aGuard t21 false (aBin Tryz.prog .lss 3 t23 t25)) fun t26 =>
 Do (aPick t21 (.val (.bool true)) t26) fun t27 =>
 Do (aGuard t27 false (aIs a3)) fun t29 =>
 Do (aGuard t27 false (aIs a2)) fun t30 =>
 Do (aGuard t27 false (aIs a4)) fun t31 =>
 Do (aGuard t27 false (aBuiltin Tryz.prog .len #[66] [t31])) fun t32 =>
 Do (aGuard t27 false (aBin Tryz.prog .sub 3 t30 t32)) fun t33 =>
 Do (aGuard t27 false (aBin Tryz.prog .gtr 3 t29 t33)) fun t34 =>
 Do (aPick t27 (.val (.bool true)) t34) fun t35 =>
 aCond t35
 (Q (.ret (.val (.bool false))) σ)
 (Do (loadF true 1 t6) fun t36 =>
 Do (aLit [.val (.int .i64 0), .val (.slice none 0 0), .val (.slice none 0 0), .val (.bool false)] [(0, 1), (1, 1), (2, 1), (3, 1)] [(0, t36), (1, a4), (2, a5)]) fun t39 =>
 aNewVar 163 (t39 : AV).cells σ fun t40 σ =>
 aCall Tryz.prog 127 [t40, a2, a3] σ (fun t44 σ_1 =>
 aNewVar 56 [.val (.int .u8 0), .val (.int .u8 0), .val (.int .u8 0), .val (.int .u8 0), .val (.int .u8 0), .val (.int .u8 0), .val (.int .u8 0), .val (.int .u8 0), .val (.int .u8 0), .val (.int .u8 0), .val (.int .u8 0), .val (.int .u8 0), .val (.int .u8 0), .val (.int .u8 0), .val (.int .u8 0), .val (.int .u8 0), .val (.int .u8 0), .val (.int .u8 0), .val (.int .u8 0), .val (.int .u8 0), .val (.int .u8 0), .val (.int .u8 0), .val (.int .u8 0), .val (.int .u8 0), .val (.int .u8 0), .val (.int .u8 0), .val (.int .u8 0), .val (.int .u8 0), .val (.int .u8 0), .val (.int .u8 0), .val (.int .u8 0), .val (.int .u8 0)] σ_1 fun t14 σ_2 =>
 storeA 32 t14 t44 σ_2 fun u σ_3 =>
 Do (aNil t40) fun t46 =>
 Do (aFieldAddr 3 1 t46) fun t47 =>
 Do (loadA false 1 t47 σ_3) fun t48 =>
 Do (aUn Tryz.prog .not t48) fun t49 =>
 Do (aGuard t49 true (aIs t40)) fun t51 =>
 Do (aGuard t49 true (aNil t51)) fun t52 =>
 Do (aGuard t49 true (aFieldAddr 2 1 t52)) fun t53 =>
 Do (aGuard t49 true (loadA false 1 t53 σ_3)) fun t54 =>
 Do (aGuard t49 true (aBuiltin Tryz.prog .len #[125] [t54])) fun t55 =>
 Do (aGuard t49 true (aBin Tryz.prog .eql 3 t55 (.val (.int .i64 0)))) fun t56 =>
 Do (aPick t49 t56 (.val (.bool false))) fun t57 =>
 Do (aGuard t57 true (loadA true 32 t14 σ_3)) fun t59 =>
 Do (aGuard t57 true (loadF true 32 t7)) fun t60 =>
 Do (aGuard t57 true (aBin Tryz.prog .eql 56 t59 t60)) fun t61 =>
 Do (aPick t57 t61 (.val (.bool false))) fun t62 =>
 Q (.ret t62) σ_3) (fun e σ_4 => Q (.pan e) σ_4))
theorem tree_Tree_CheckRange.eq (a0 a1 a2 a3 a4 a5 : AV) (σ : Store) (Q : AEnd → Store → Prop) : vc (semOf Tryz.prog tree_Tree_CheckRange.mark) Tryz.f92.ntmps tree_Tree_CheckRange.ann (bodyOf Tryz.f92) (endK [.tmp 12] Q) (argFr [a0, a1, a2, a3, a4, a5]) σ = tree_Tree_CheckRange.sh a0 a1 a2 a3 a4 a5 σ Q := by kernel_rfl
theorem tree_Tree_CheckRange.go {a0 a1 a2 a3 a4 a5 : AV} {σ : Store} {Q : AEnd → Store → Prop} (h : tree_Tree_CheckRange.sh a0 a1 a2 a3 a4 a5 σ Q) : ACalls Tryz.prog 92 [a0, a1, a2, a3, a4, a5] σ Q :=
 acalls_of_eq [.tmp 12] Tryz.func92 (by kernel_rfl) (by kernel_rfl) (by kernel_rfl) (by kernel_rfl) (tree_Tree_CheckRange.eq a0 a1 a2 a3 a4 a5 σ Q) h
theorem oroot_ok (b : Int) (o : Nat) (part : List (List UInt8)) (m : SM) (hpl : part.length ≤ 1000000000) (hpb : ∀ b ∈ part, b.length ≤ 100000000000000) : ∀ (n cnt : Nat) (p : Int) (s : List D32 × Bool), cnt = n → 0 < cnt → cnt ≤ 9223372036854775807 → -9000000000000000000 ≤ p → p ≤ 9223372036854775807 - part.length →
  ACalls Tryz.prog 127 [ptrAt o 0, I .i64 (cnt : Nat), I .i64 p] [.var o OpT (opn4 b part m s.1 s.2)] fun x σ' => x = .ret (dgA (rootR b part cnt p s).1.val) ∧ σ' = [.var o OpT (opn4 b part m (rootR b part cnt p s).2.1 (rootR b part cnt p s).2.2)] := by
 intro n
 induction n using Nat.strongRecOn with
 | _ n ih =>
  intro cnt p s hn h0 h1 h2 h3
  refine ACalls.fin (tree_opening_root.go ?_)
  unfold tree_opening_root.sh
  have inst : ∀ (cnt' : Nat) (p' : Int) (q : List D32) (c : Bool) (σ rest : Store) (put : Ent → Store) [hv : VarAt o σ OpT (opn4 b part m q c) put rest], EC Tryz.prog 127 [ptrAt o 0, I .i64 (cnt' : Nat), I .i64 p'] σ (cnt' < n ∧ 0 < cnt' ∧ cnt' ≤ 9223372036854775807 ∧ -9000000000000000000 ≤ p' ∧ p' ≤ 9223372036854775807 - part.length) Unit (fun _ => dgA (rootR b part cnt' p' (q, c)).1.val) (fun _ => put (.var o OpT (opn4 b part m (rootR b part cnt' p' (q, c)).2.1 (rootR b part cnt' p' (q, c)).2.2))) := fun cnt' p' q c σ rest put hv => ⟨fun h => (ACalls.at_ (ih cnt' h.1 cnt' p' (q, c) rfl h.2.1 h.2.2.1 h.2.2.2.1 h.2.2.2.2)).mono fun x σ' ⟨g1, g2⟩ => ⟨(), g1, g2⟩⟩
  by_cases h4 : p + part.length ≤ 0 ∨ (cnt : Int) ≤ p
  ·have e : rootR b part cnt p s = popD s := by unfold rootR; rw [if_pos h4]
   rw [e]
   obtain ⟨path, c⟩ := s
   dsimp only
   cases path with
   | nil =>
    have hz0 : ([] : List D32).length = 0 := rfl
    by_cases h5 : p + part.length ≤ 0
    ·repeat' (with_reducible first|apply Stp.go|refine imp fun _=>?_|refine zq ?_|refine zt ?_|refine zf ?_|refine zg ?_|refine za ?_|refine altF ?_|refine all fun _=>?_|refine both ?_ ?_|refine zu ?_|refine zv ?_|refine cho (fun _=>?_) fun _=>?_|refine zw ?_)
     exact ⟨_, _, _, rfl, Sub.drop_ (List.sublist_cons_self _ _) _, rfl, rfl⟩
    ·have h6 : (cnt : Int) ≤ p := by omega
     repeat' (with_reducible first|apply Stp.go|refine imp fun _=>?_|refine zq ?_|refine zt ?_|refine zf ?_|refine zg ?_|refine za ?_|refine altF ?_|refine all fun _=>?_|refine both ?_ ?_|refine zu ?_|refine zv ?_|refine cho (fun _=>?_) fun _=>?_|refine zw ?_)
     exact ⟨_, _, _, rfl, Sub.drop_ (List.sublist_cons_self _ _) _, rfl, rfl⟩
   | cons x xs =>
    have hz0 : ¬ (x :: xs).length = 0 := by simp
    have hx32 : ((x :: xs).getD 0 default).val.length = 32 := x.len
    have hr32 : (List.replicate 32 (0 : UInt8)).length = 32 := by simp
    by_cases h5 : p + part.length ≤ 0
    ·repeat' (with_reducible first|apply Stp.go|refine imp fun _=>?_|refine zq ?_|refine zt ?_|refine zf ?_|refine zg ?_|refine za ?_|refine altF ?_|refine all fun _=>?_|refine both ?_ ?_|refine zu ?_|refine zv ?_|refine cho (fun _=>?_) fun _=>?_|refine zw ?_)
     exact ⟨_, _, _, rfl, Sub.drop_ (.cons _ (.cons _ (.cons_cons _ .slnil))) _, rfl, rfl⟩
    ·have h6 : (cnt : Int) ≤ p := by omega
     repeat' (with_reducible first|apply Stp.go|refine imp fun _=>?_|refine zq ?_|refine zt ?_|refine zf ?_|refine zg ?_|refine za ?_|refine altF ?_|refine all fun _=>?_|refine both ?_ ?_|refine zu ?_|refine zv ?_|refine cho (fun _=>?_) fun _=>?_|refine zw ?_)
     exact ⟨_, _, _, rfl, Sub.drop_ (.cons _ (.cons _ (.cons_cons _ .slnil))) _, rfl, rfl⟩
  ·have h5 : ¬ p + part.length ≤ 0 := by omega
   have h6 : ¬ (cnt : Int) ≤ p := by omega
   by_cases h7 : cnt = 1
   ·obtain ⟨j, rfl⟩ : ∃ j : Nat, p = -(j : Int) := ⟨(-p).toNat, by omega⟩
    have e : rootR b part cnt (-(j : Int)) s = (⟨leafD b (part.getD j default), Len32.len⟩, s) := by
     rw [rootR_one h4 (by omega)]
     simp only [Int.neg_neg, Int.toNat_natCast]
    rw [e]
    have h8 : j < part.length := by omega
    have hb0 : (part.getD j default).length ≤ 100000000000000 := hpb _ (by rw [List.getD_eq_getElem?_getD, List.getElem?_eq_getElem h8]; exact List.getElem_mem _)
    have hr32 : (List.replicate 32 (0 : UInt8)).length = 32 := by simp
    have n0 : (leafD b (part.getD j default)).length = 32 := Len32.len
    repeat' (with_reducible first|apply Stp.go|refine imp fun _=>?_|refine zq ?_|refine zt ?_|refine zf ?_|refine zg ?_|refine za ?_|refine altF ?_|refine all fun _=>?_|refine both ?_ ?_|refine zu ?_|refine zv ?_|refine cho (fun _=>?_) fun _=>?_|refine zw ?_)
    exact ⟨_, _, _, rfl, Sub.drop_ (List.sublist_cons_self _ _) _, rfl, rfl⟩
   ·have hh := halfN_lt (n := cnt) (by omega)
    have hk := halfN_log (n := cnt) (m := 62) (by omega) (by omega)
    obtain ⟨q, c⟩ := s
    dsimp only
    have e := rootR_two (b := b) (part := part) (s := (q, c)) h4 (show ¬ cnt ≤ 1 by omega)
    obtain ⟨d1, q1, c1, hX⟩ : ∃ d1 q1 c1, rootR b part (halfN cnt) p (q, c) = (d1, q1, c1) := ⟨_, _, _, rfl⟩
    obtain ⟨d2, q2, c2, hY⟩ : ∃ d2 q2 c2, rootR b part (cnt - halfN cnt) (p - halfN cnt) (q1, c1) = (d2, q2, c2) := ⟨_, _, _, rfl⟩
    rw [hX] at e
    dsimp only at e
    rw [hY] at e
    dsimp only at e
    rw [e]
    dsimp only
    have i1 : ∀ (σ rest : Store) (put : Ent → Store) [hv : VarAt o σ OpT (opn4 b part m q c) put rest], EC Tryz.prog 127 [ptrAt o 0, I .i64 (halfN cnt : Nat), I .i64 p] σ True Unit (fun _ => dgA d1.val) (fun _ => put (.var o OpT (opn4 b part m q1 c1))) := fun σ rest put hv => ⟨fun _ => by
     have := (inst (halfN cnt) p q c σ rest put).ct ⟨by omega, by omega, by omega, h2, h3⟩
     rw [hX] at this
     exact this⟩
    have i2 : ∀ (σ rest : Store) (put : Ent → Store) [hv : VarAt o σ OpT (opn4 b part m q1 c1) put rest], EC Tryz.prog 127 [ptrAt o 0, I .i64 (cnt - halfN cnt : Nat), I .i64 (p - (halfN cnt : Nat))] σ True Unit (fun _ => dgA d2.val) (fun _ => put (.var o OpT (opn4 b part m q2 c2))) := fun σ rest put hv => ⟨fun _ => by
     have := (inst (cnt - halfN cnt) (p - (halfN cnt : Nat)) q1 c1 σ rest put).ct ⟨by omega, by omega, by omega, by omega, by omega⟩
     rw [hY] at this
     exact this⟩
    clear inst
    have n1 := d1.len
    have n2 := d2.len
    have hr32 : (List.replicate 32 (0 : UInt8)).length = 32 := by simp
    have n3 : (nodeD b d1.val d2.val).length = 32 := Len32.len
    repeat' (with_reducible first|apply Stp.go|refine imp fun _=>?_|refine zq ?_|refine zt ?_|refine zf ?_|refine zg ?_|refine za ?_|refine altF ?_|refine all fun _=>?_|refine both ?_ ?_|refine zu ?_|refine zv ?_|refine cho (fun _=>?_) fun _=>?_|refine zw ?_)
    rename_i t6 _ t9
    refine joinI (β := Unit) (fun _ => True) (fun _ => [ptrAt t6 0]) (fun _ => [.var t6 DgT ((nodeD b d1.val d2.val).map byt), .var o OpT (opn4 b part m q2 c2)]) ?_ ?_
    ·repeat' (with_reducible first|apply Stp.go|refine imp fun _=>?_|refine zq ?_|refine zt ?_|refine zf ?_|refine zg ?_|refine za ?_|refine altF ?_|refine all fun _=>?_|refine both ?_ ?_|refine zu ?_|refine zv ?_|refine cho (fun _=>?_) fun _=>?_|refine zw ?_)
     all_goals exact meet () trivial (Sub.drop_ (List.sublist_cons_self _ _) _)
    ·rintro ⟨⟩ _
     repeat' (with_reducible first|apply Stp.go|refine imp fun _=>?_|refine zq ?_|refine zt ?_|refine zf ?_|refine zg ?_|refine za ?_|refine altF ?_|refine all fun _=>?_|refine both ?_ ?_|refine zu ?_|refine zv ?_|refine cho (fun _=>?_) fun _=>?_|refine zw ?_)
     exact ⟨_, _, _, rfl, Sub.drop_ (List.sublist_cons_self _ _) _, rfl, rfl⟩
theorem CheckRange_ok (b : Int) (root : List UInt8) [hr : Len32 root] (cnt p : Int) (part : List (List UInt8)) (m : SM) (path : List D32) (hc : cnt ≤ 9223372036854775807) (hl : part.length ≤ 1000000000) (hpb : ∀ b ∈ part, b.length ≤ 100000000000000) :
  aPure Tryz.prog 92 [trA b, dgA root, I .i64 cnt, I .i64 p,   .lst 1 (part.map bl) m, .lst 32 (path.map dgF) .ro] (B (checkR b ⟨root, hr.len⟩ cnt p part path)) := by
 refine ACalls.fin (tree_Tree_CheckRange.go ?_)
 unfold tree_Tree_CheckRange.sh
 by_cases h : 0 < part.length ∧ 0 ≤ p ∧ (part.length : Int) ≤ cnt ∧ p ≤ cnt - part.length
 ·obtain ⟨n, rfl⟩ := Int.eq_ofNat_of_zero_le (show 0 ≤ cnt by omega)
  have e : checkR b ⟨root, hr.len⟩ n p part path = ((!(rootR b part n p (path, false)).2.2 && decide ((rootR b part n p (path, false)).2.1.length = 0)) && decide ((rootR b part n p (path, false)).1.val = root)) := by
   rw [checkR, decide_eq_true h, Bool.true_and, Int.toNat_natCast]
  rw [e]
  have inst : ∀ (o : Nat) (q : List D32) (c : Bool) (σ rest : Store) (put : Ent → Store) [hv : VarAt o σ OpT (opn4 b part m q c) put rest], EC Tryz.prog 127 [ptrAt o 0, I .i64 (n : Nat), I .i64 p] σ True Unit (fun _ => dgA (rootR b part n p (q, c)).1.val) (fun _ => put (.var o OpT (opn4 b part m (rootR b part n p (q, c)).2.1 (rootR b part n p (q, c)).2.2))) := fun o q c σ rest put hv => ⟨fun _ => (ACalls.at_ (oroot_ok b o part m hl hpb n n p (q, c) rfl (by omega) (by omega) (by omega) (by omega))).mono fun x σ' ⟨g1, g2⟩ => ⟨(), g1, g2⟩⟩
  have n1 := (rootR b part n p (path, false)).1.len
  have n2 := hr.len
  have n3 : (rootR b part n p (path, false)).1.val.length = 32 ∧ root.length = 32 := ⟨n1, n2⟩
  repeat' (with_reducible first|apply Stp.go|refine imp fun _=>?_|refine zq ?_|refine zt ?_|refine zf ?_|refine zg ?_|refine za ?_|refine altF ?_|refine all fun _=>?_|refine both ?_ ?_|refine zu ?_|refine zv ?_|refine cho (fun _=>?_) fun _=>?_|refine zw ?_)
  all_goals
   refine ⟨_, _, _, rfl, Sub.app_nil _, ?_, rfl⟩
   simp_all
 ·have e : checkR b ⟨root, hr.len⟩ cnt p part path = false := by rw [checkR, decide_eq_false h, Bool.false_and]
  rw [e]
  repeat' (with_reducible first|apply Stp.go|refine imp fun _=>?_|refine zq ?_|refine zt ?_|refine zf ?_|refine zg ?_|refine za ?_|refine altF ?_|refine all fun _=>?_|refine both ?_ ?_|refine zu ?_|refine zv ?_|refine cho (fun _=>?_) fun _=>?_|refine zw ?_)
  all_goals first
   | exact ⟨_, _, _, rfl, Sub.app_nil _, rfl, rfl⟩
   | (exfalso; omega)
instance {a a2 : AV} {root : List UInt8} {part : List (List UInt8)} {m m' : SM} {b : Int} {cnt p : Int} {path : List D32} [hr : Len32 root] [h : IsL a bl 1 part m] [h2 : IsL a2 dgF 32 path m'] : PC Tryz.prog 92 [trA b, dgA root, I .i64 cnt, I .i64 p, a, a2] (cnt ≤ 9223372036854775807 ∧ part.length ≤ 1000000000 ∧ ∀ b ∈ part, b.length ≤ 100000000000000) (B (checkR b ⟨root, hr.len⟩ cnt p part path)) := ⟨fun hl => ⟨[trA b, dgA root, I .i64 cnt, I .i64 p, .lst 1 (part.map bl) m, .lst 32 (path.map dgF) .ro], ⟨SubV.refl _, SubV.refl _, SubV.refl _, SubV.refl _, h.sub, fun R v hv => SubV.ro _ _ _ R v (h2.sub R v hv), trivial⟩, CheckRange_ok b root cnt p part m path hl.1 hl.2.1 hl.2.2⟩⟩
end Go.Ab

namespace Go.Ab
inductive Nd
 | cut (d : D32)
 | leaf (d : D32) (t : List UInt8)
 | node (d : D32) (l r : Nd)
def Nd.d : Nd → D32
 | .cut d => d
 | .leaf d _ => d
 | .node d _ _ => d
def ndT : Nd → AV × AV × AV
 | .cut _ => (.val (.slice none 0 0), .val (.pointer none), .val (.pointer none))
 | .leaf _ t => (.lst 1 (([0] ++ t).map byt) .ro, .val (.pointer none), .val (.pointer none))
 | .node _ l r => (.lst 1 (([1] ++ l.d.val ++ r.d.val).map byt) .ro, .rptr (l.d.val.map byt ++ [(ndT l).1, (ndT l).2.1, (ndT l).2.2]), .rptr (r.d.val.map byt ++ [(ndT r).1, (ndT r).2.1, (ndT r).2.2]))
abbrev ndCs (x : Nd) : List AV := x.d.val.map byt ++ [(ndT x).1, (ndT x).2.1, (ndT x).2.2]
abbrev ndF (x : Nd) : AV := .rptr (ndCs x)
section nds
variable {P : Program} {K : AV → Prop} {k : AV → Store → Prop} {d : List UInt8} {x y z u v : AV} {t : TypeId} {σ : Store}
abbrev ndZ : List AV := [.val (.int .u8 0), .val (.int .u8 0), .val (.int .u8 0), .val (.int .u8 0), .val (.int .u8 0), .val (.int .u8 0), .val (.int .u8 0), .val (.int .u8 0), .val (.int .u8 0), .val (.int .u8 0), .val (.int .u8 0), .val (.int .u8 0), .val (.int .u8 0), .val (.int .u8 0), .val (.int .u8 0), .val (.int .u8 0), .val (.int .u8 0), .val (.int .u8 0), .val (.int .u8 0), .val (.int .u8 0), .val (.int .u8 0), .val (.int .u8 0), .val (.int .u8 0), .val (.int .u8 0), .val (.int .u8 0), .val (.int .u8 0), .val (.int .u8 0), .val (.int .u8 0), .val (.int .u8 0), .val (.int .u8 0), .val (.int .u8 0), .val (.int .u8 0), .val (.slice none 0 0), .val (.pointer none), .val (.pointer none)]
abbrev ndO : List (Nat × Nat) := [(0, 32), (32, 1), (33, 1), (34, 1)]
theorem spl0 (hd : d.length = 32) : splice ndZ 0 (d.map byt) = d.map byt ++ [.val (.slice none 0 0), .val (.pointer none), .val (.pointer none)] := by
 unfold splice; rw [List.length_map, hd]; rfl
theorem spl1 (hd : d.length = 32) : splice (d.map byt ++ [x, y, z]) 32 [u] = d.map byt ++ [u, y, z] := by
 have h : (d.map byt).length = 32 := by simp [hd]
 unfold splice
 simp [List.take_append, List.drop_append, h, List.take_of_length_le, List.drop_of_length_le]
theorem spl2 (hd : d.length = 32) : splice (d.map byt ++ [x, y, z]) 33 [u] = d.map byt ++ [x, u, z] := by
 have h : (d.map byt).length = 32 := by simp [hd]
 unfold splice
 simp [List.take_append, List.drop_append, h, List.take_of_length_le, List.drop_of_length_le]
theorem spl3 (hd : d.length = 32) : splice (d.map byt ++ [x, y, z]) 34 [u] = d.map byt ++ [x, y, u] := by
 have h : (d.map byt).length = 32 := by simp [hd]
 unfold splice
 simp [List.take_append, List.drop_append, h, List.take_of_length_le, List.drop_of_length_le]
theorem onesB (l : List UInt8) : ∀ c ∈ l.map byt, c.one = true := fun c hc => by
 obtain ⟨b, _, rfl⟩ := List.mem_map.1 hc
 rfl
theorem fil0 (hd : d.length = 32) {ps : List (Nat × AV)} : fillA (ndO[·]?) ndZ ((0, dgA d) :: ps) = fillA (ndO[·]?) (d.map byt ++ [.val (.slice none 0 0), .val (.pointer none), .val (.pointer none)]) ps := by
 have h : (d.map byt).length = 32 := by simp [hd]
 show (if (d.map byt).length = 32 ∧ 0 + 32 ≤ ndZ.length then fillA (ndO[·]?) (splice ndZ 0 (d.map byt)) ps else none) = _
 rw [if_pos ⟨h, by decide⟩, spl0 hd]
theorem filN {i o : Nat} {cs : List AV} {ps : List (Nat × AV)} (hi : ndO[i]? = some (o, 1)) (hu : u.cells = [u]) (ho : o + 1 ≤ cs.length) : fillA (ndO[·]?) cs ((i, u) :: ps) = fillA (ndO[·]?) (splice cs o [u]) ps := by
 simp only [fillA, hi, hu]
 rw [if_pos ⟨rfl, ho⟩]
instance (priority := 1500) litNd1 [hd : Len32 d] : Stp (Do (aLit [.val (.int .u8 0), .val (.int .u8 0), .val (.int .u8 0), .val (.int .u8 0), .val (.int .u8 0), .val (.int .u8 0), .val (.int .u8 0), .val (.int .u8 0), .val (.int .u8 0), .val (.int .u8 0), .val (.int .u8 0), .val (.int .u8 0), .val (.int .u8 0), .val (.int .u8 0), .val (.int .u8 0), .val (.int .u8 0), .val (.int .u8 0), .val (.int .u8 0), .val (.int .u8 0), .val (.int .u8 0), .val (.int .u8 0), .val (.int .u8 0), .val (.int .u8 0), .val (.int .u8 0), .val (.int .u8 0), .val (.int .u8 0), .val (.int .u8 0), .val (.int .u8 0), .val (.int .u8 0), .val (.int .u8 0), .val (.int .u8 0), .val (.int .u8 0), .val (.slice none 0 0), .val (.pointer none), .val (.pointer none)] [(0, 32), (32, 1), (33, 1), (34, 1)] [(0, dgA d)]) K) (K (.agg (d.map byt ++ [.val (.slice none 0 0), .val (.pointer none), .val (.pointer none)]))) := ⟨fun hK => ⟨_, ⟨fun p hp => by
 rw [List.mem_singleton.1 hp]; exact onesB d, _, fil0 hd.len, rfl⟩, hK⟩⟩
instance (priority := 1500) litNd2 [hd : Len32 d] [h1 : Cells u [u]] [o1 : One u] : Stp (Do (aLit [.val (.int .u8 0), .val (.int .u8 0), .val (.int .u8 0), .val (.int .u8 0), .val (.int .u8 0), .val (.int .u8 0), .val (.int .u8 0), .val (.int .u8 0), .val (.int .u8 0), .val (.int .u8 0), .val (.int .u8 0), .val (.int .u8 0), .val (.int .u8 0), .val (.int .u8 0), .val (.int .u8 0), .val (.int .u8 0), .val (.int .u8 0), .val (.int .u8 0), .val (.int .u8 0), .val (.int .u8 0), .val (.int .u8 0), .val (.int .u8 0), .val (.int .u8 0), .val (.int .u8 0), .val (.int .u8 0), .val (.int .u8 0), .val (.int .u8 0), .val (.int .u8 0), .val (.int .u8 0), .val (.int .u8 0), .val (.int .u8 0), .val (.int .u8 0), .val (.slice none 0 0), .val (.pointer none), .val (.pointer none)] [(0, 32), (32, 1), (33, 1), (34, 1)] [(0, dgA d), (1, u)]) K) (K (.agg (d.map byt ++ [u, .val (.pointer none), .val (.pointer none)]))) := ⟨fun hK => ⟨_, ⟨fun p hp => by
 rcases List.mem_cons.1 hp with rfl | hp
 ·exact onesB d
 ·rw [List.mem_singleton.1 hp]
  intro c hc
  rw [h1.eq] at hc
  rw [List.mem_singleton.1 hc]; exact o1.one, _, by
 have h : (d.map byt).length = 32 := by simp [hd.len]
 rw [fil0 hd.len, filN (o := 32) rfl h1.eq (by simp [hd.len]), spl1 hd.len]
 rfl, rfl⟩, hK⟩⟩
instance (priority := 1500) litNd4 {w z : AV} [hd : Len32 d] [h1 : Cells u [u]] [o1 : One u] [h2 : Cells w [w]] [o2 : One w] [h3 : Cells z [z]] [o3 : One z] : Stp (Do (aLit [.val (.int .u8 0), .val (.int .u8 0), .val (.int .u8 0), .val (.int .u8 0), .val (.int .u8 0), .val (.int .u8 0), .val (.int .u8 0), .val (.int .u8 0), .val (.int .u8 0), .val (.int .u8 0), .val (.int .u8 0), .val (.int .u8 0), .val (.int .u8 0), .val (.int .u8 0), .val (.int .u8 0), .val (.int .u8 0), .val (.int .u8 0), .val (.int .u8 0), .val (.int .u8 0), .val (.int .u8 0), .val (.int .u8 0), .val (.int .u8 0), .val (.int .u8 0), .val (.int .u8 0), .val (.int .u8 0), .val (.int .u8 0), .val (.int .u8 0), .val (.int .u8 0), .val (.int .u8 0), .val (.int .u8 0), .val (.int .u8 0), .val (.int .u8 0), .val (.slice none 0 0), .val (.pointer none), .val (.pointer none)] [(0, 32), (32, 1), (33, 1), (34, 1)] [(0, dgA d), (1, u), (2, w), (3, z)]) K) (K (.agg (d.map byt ++ [u, w, z]))) := ⟨fun hK => ⟨_, ⟨fun p hp => by
 have key : ∀ {q : AV}, Cells q [q] → One q → ∀ c ∈ q.cells, c.one = true := fun a b c hc => by
  rw [a.eq] at hc
  rw [List.mem_singleton.1 hc]; exact b.one
 rcases List.mem_cons.1 hp with rfl | hp
 ·exact onesB d
 rcases List.mem_cons.1 hp with rfl | hp
 ·exact key h1 o1
 rcases List.mem_cons.1 hp with rfl | hp
 ·exact key h2 o2
 rw [List.mem_singleton.1 hp]
 exact key h3 o3, _, by
 rw [fil0 hd.len, filN (o := 32) rfl h1.eq (by simp [hd.len]), spl1 hd.len, filN (o := 33) rfl h2.eq (by simp [hd.len]), spl2 hd.len, filN (o := 34) rfl h3.eq (by simp [hd.len]), spl3 hd.len]
 rfl, rfl⟩, hK⟩⟩
instance (priority := 1500) newNd [hx : One x] [hy : One y] [hz : One z] : Stp (aNewVar t (AV.cells (.agg (d.map byt ++ [x, y, z]))) σ k) (All fun b => k (ptrAt b 0) (.var b t (d.map byt ++ [x, y, z]) :: σ)) := ⟨fun hK => ⟨fun c hc => by
 have hc : c ∈ d.map byt ++ [x, y, z] := hc
 rcases List.mem_append.1 hc with hc | hc
 ·exact onesB d c hc
 ·rcases List.mem_cons.1 hc with rfl | hc
  ·exact hx.one
  rcases List.mem_cons.1 hc with rfl | hc
  ·exact hy.one
  rw [List.mem_singleton.1 hc]; exact hz.one, fun b _ => hK b⟩⟩
instance (priority := 1500) ndA0 {x : Nd} : Stp (Do (aFieldAddr 0 32 (.rptr (ndCs x))) K) (K (.rptr (x.d.val.map byt))) := ⟨fun hK => ⟨_, ⟨by decide, by simp [x.d.len], by
 have h : (x.d.val.map byt).length = 32 := by simp [x.d.len]
 simp only [List.drop_zero]
 rw [List.take_append_of_le_length (by omega), List.take_of_length_le (by omega)]⟩, hK⟩⟩
theorem ndAt {x : Nd} {o : Nat} {u : AV} (h : ([(ndT x).1, (ndT x).2.1, (ndT x).2.2].drop o).take 1 = [u]) (ho : o < 3) (hK : K (.rptr [u])) : Do (aFieldAddr (32 + o) 1 (.rptr (ndCs x))) K := ⟨_, ⟨by decide, by simp [x.d.len]; omega, rfl⟩, by
 have h32 : (x.d.val.map byt).length = 32 := by simp [x.d.len]
 rw [List.drop_append, List.drop_of_length_le (by omega), List.nil_append, h32, show 32 + o - 32 = o by omega, h]
 exact hK⟩
instance (priority := 1500) ndA1 {x : Nd} : Stp (Do (aFieldAddr 32 1 (.rptr (ndCs x))) K) (K (.rptr [(ndT x).1])) := ⟨fun hK => ndAt (o := 0) rfl (by decide) hK⟩
instance (priority := 1500) ndA2 {x : Nd} : Stp (Do (aFieldAddr 33 1 (.rptr (ndCs x))) K) (K (.rptr [(ndT x).2.1])) := ⟨fun hK => ndAt (o := 1) rfl (by decide) hK⟩
instance (priority := 1500) ndA3 {x : Nd} : Stp (Do (aFieldAddr 34 1 (.rptr (ndCs x))) K) (K (.rptr [(ndT x).2.2])) := ⟨fun hK => ndAt (o := 2) rfl (by decide) hK⟩
theorem eq_nil_run2 {d t : TypeId} (h : P.underlying t = some (.slice d)) (k : Nat) (ao : Option Addr) (m c : Nat) (w : World) : (Op.equalIn (k + 1) t (.slice ao m c) (.slice none 0 0)).run P w = .ok ao.isNone w := by
 cases ao <;> simp [Op.equalIn, run_underlying h]
instance {f : UInt8 → AV} {l : List UInt8} {sz : Nat} [h : SlT P t] : Stp (Do (aBin P .eql t (.lst sz (l.map f) .ro) (.val (.slice none 0 0))) K) (Need (0 < l.length) (K (.val (.bool false)))) := ⟨fun ⟨h0, hK⟩ => ⟨_, by
 show aBin P .eql t (.lst sz (l.map f) .ro) (.val (.slice none 0 0)) (.val (.bool false))
 obtain ⟨d, hd⟩ := isSl_run h.h
 unfold aBin
 simp only [plainV]
 refine ⟨_, rfl, ?_⟩
 intro c hc xo yo w'
 unfold mayBe at hc
 simp only at hc
 rw [if_neg (by decide), if_neg (by intro e; rw [List.map_eq_nil_iff] at e; rw [e] at h0; exact absurd h0 (by decide))] at hc
 obtain ⟨ao, m, cp, rfl⟩ := hc
 have e1 := eq_nil_run2 hd 9999 (some ao) m cp w'
 cases xo <;> cases yo <;> simp [eqGuard, binOp, Op.equal, Op.maxDepth, e1, Op.eqGuardIn, run_underlying hd], hK⟩⟩
instance [h : SlT P t] : Stp (Do (aBin P .eql t (.val (.slice none 0 0)) (.val (.slice none 0 0))) K) (K (.val (.bool true))) := ⟨fun hK => ⟨_, by
 show aBin P .eql t (.val (.slice none 0 0)) (.val (.slice none 0 0)) (.val (.bool true))
 obtain ⟨d, hd⟩ := isSl_run h.h
 unfold aBin
 simp only [plainV]
 refine ⟨_, rfl, ?_⟩
 intro xo yo w'
 have e1 := eq_nil_run2 hd 9999 none 0 0 w'
 cases xo <;> cases yo <;> simp [eqGuard, binOp, Op.equal, Op.maxDepth, e1, Op.eqGuardIn, run_underlying hd], hK⟩⟩
end nds
end Go.Ab

namespace Go.Ab
open Go.Proofs
def growN (b : Int) (part : List (List UInt8)) (cnt : Nat) (p : Int) (path : List D32) : Nd × List D32 :=
 if p + part.length ≤ 0 ∨ (cnt : Int) ≤ p then (.cut (path.getD 0 default), path.drop 1)
 else if h : cnt ≤ 1 then (.leaf ⟨leafD b (part.getD (-p).toNat default), Len32.len⟩ (part.getD (-p).toNat default), path)
 else
  let x := growN b part (halfN cnt) p path
  let y := growN b part (cnt - halfN cnt) (p - halfN cnt) x.2
  (.node ⟨nodeD b x.1.d.val y.1.d.val, Len32.len⟩ x.1 y.1, y.2)
termination_by cnt
decreasing_by
 ·have := halfN_lt (n := cnt) (by omega); omega
 ·have := halfN_lt (n := cnt) (by omega); omega
section growN
variable {b : Int} {part : List (List UInt8)} {cnt : Nat} {p : Int} {path : List D32}
theorem growN_out (h : p + part.length ≤ 0 ∨ (cnt : Int) ≤ p) : growN b part cnt p path = (.cut (path.getD 0 default), path.drop 1) := by unfold growN; rw [if_pos h]
theorem growN_one (h : ¬ (p + part.length ≤ 0 ∨ (cnt : Int) ≤ p)) (h1 : cnt ≤ 1) : growN b part cnt p path = (.leaf ⟨leafD b (part.getD (-p).toNat default), Len32.len⟩ (part.getD (-p).toNat default), path) := by unfold growN; rw [if_neg h, dif_pos h1]
theorem growN_two (h : ¬ (p + part.length ≤ 0 ∨ (cnt : Int) ≤ p)) (h1 : ¬ cnt ≤ 1) : growN b part cnt p path = (.node ⟨nodeD b (growN b part (halfN cnt) p path).1.d.val (growN b part (cnt - halfN cnt) (p - halfN cnt) (growN b part (halfN cnt) p path).2).1.d.val, Len32.len⟩ (growN b part (halfN cnt) p path).1 (growN b part (cnt - halfN cnt) (p - halfN cnt) (growN b part (halfN cnt) p path).2).1, (growN b part (cnt - halfN cnt) (p - halfN cnt) (growN b part (halfN cnt) p path).2).2) := by
 conv => lhs; unfold growN
 rw [if_neg h, dif_neg h1]
end growN
theorem d32_ext {x y : D32} (h : x.val = y.val) : x = y := by cases x; cases y; cases h; rfl
theorem grow_root (b : Int) (part : List (List UInt8)) : ∀ (n cnt : Nat) (p : Int) (path : List D32), cnt = n → (rootR b part cnt p (path, false)).2.2 = false → (growN b part cnt p path).1.d = (rootR b part cnt p (path, false)).1 ∧ (growN b part cnt p path).2 = (rootR b part cnt p (path, false)).2.1 := by
 intro n
 induction n using Nat.strongRecOn with
 | _ n ih =>
  intro cnt p path hn
  by_cases h : p + part.length ≤ 0 ∨ (cnt : Int) ≤ p
  ·rw [rootR_out h, growN_out h]
   cases path with
   | nil => intro h; cases h
   | cons x xs => intro _; exact ⟨rfl, rfl⟩
  ·by_cases h1 : cnt ≤ 1
   ·rw [rootR_one h h1, growN_one h h1]
    intro _; exact ⟨rfl, rfl⟩
   ·rw [rootR_two h h1, growN_two h h1]
    have hh := halfN_lt (n := cnt) (by omega)
    have i1 := ih (halfN cnt) (by omega) _ p path rfl
    obtain ⟨⟨q1, c1⟩, h2⟩ : ∃ z, z = (rootR b part (halfN cnt) p (path, false)).2 := ⟨_, rfl⟩
    rw [← h2] at i1 ⊢
    intro hb
    cases c1 with
    | true =>
     have := rootR_bad b part _ (cnt - halfN cnt) (p - halfN cnt) q1 rfl
     dsimp only at hb
     rw [this] at hb; cases hb
    | false =>
     obtain ⟨a1, a2⟩ := i1 rfl
     have i2 := ih (cnt - halfN cnt) (by omega) _ (p - halfN cnt) q1 rfl hb
     rw [a1, a2]
     exact ⟨d32_ext (show nodeD b _ (growN b part (cnt - halfN cnt) (p - halfN cnt) q1).1.d.val = nodeD b _ _ by rw [i2.1]), i2.2⟩
abbrev GrT : TypeId := 127
abbrev PaT : TypeId := 125
abbrev grV (b : Int) (part : List (List UInt8)) (bp bg : Nat) : AV := .fn (.func 93) [] [.rptr [.lst 1 (part.map bl) .ro], ptrAt bp 0, .rptr [I .i64 b], ptrAt bg 0]
def clash_OfRange_1.mark : Mark := ⟨fun t => Nat.beq t 41 || Nat.beq t 47 || Nat.beq t 51 || Nat.beq t 73 || Nat.beq t 82, fun t => false, fun t => false, fun t => Nat.beq t 15 || Nat.beq t 26 || Nat.beq t 35 || Nat.beq t 36 || Nat.beq t 40 || Nat.beq t 42 || Nat.beq t 46 || Nat.beq t 64 || Nat.beq t 68 || Nat.beq t 72 || Nat.beq t 77 || Nat.beq t 81, fun t => false⟩
def clash_OfRange_1.ann : Ann := ⟨fun n => [], fun n => none, fun n => none⟩
def clash_OfRange_1.sh (a0 a1 a2 a3 a4 a5 : AV) (σ : Store) (Q : AEnd → Store → Prop) : Prop :=
 Do (loadF false 1 a2) fun t15 =>
 Do (aBuiltin Tryz.prog .len #[66] [t15]) fun t16 =>
 Do (aBin Tryz.prog .add 3 a1 t16) fun t17 =>
 Do (aBin Tryz.prog .leq 3 t17 (.val (.int .i64 0))) fun t18 =>
 Do (aGuard t18 false (aIs a1)) fun t20 =>
 Do (aGuard t18 false (aIs a0)) fun t21 =>
 Do (aGuard t18 false (aBin Tryz.prog .geq 3 t20 t21)) fun t22 =>
 Do (aPick t18 (.val (.bool true)) t22) fun t23 =>
 aCond t23
 (Do (loadA false 1 a3 σ) fun t24 =>
 Do (aIndexAddr .slice 32 t24 (.val (.int .i64 0))) fun t25 =>
 Do (loadF true 32 t25) fun t26 =>
 aNewVar 56 [.val (.int .u8 0), .val (.int .u8 0), .val (.int .u8 0), .val (.int .u8 0), .val (.int .u8 0), .val (.int .u8 0), .val (.int .u8 0), .val (.int .u8 0), .val (.int .u8 0), .val (.int .u8 0), .val (.int .u8 0), .val (.int .u8 0), .val (.int .u8 0), .val (.int .u8 0), .val (.int .u8 0), .val (.int .u8 0), .val (.int .u8 0), .val (.int .u8 0), .val (.int .u8 0), .val (.int .u8 0), .val (.int .u8 0), .val (.int .u8 0), .val (.int .u8 0), .val (.int .u8 0), .val (.int .u8 0), .val (.int .u8 0), .val (.int .u8 0), .val (.int .u8 0), .val (.int .u8 0), .val (.int .u8 0), .val (.int .u8 0), .val (.int .u8 0)] σ fun t9 σ =>
 storeA 32 t9 t26 σ fun u σ_1 =>
 Do (loadA false 1 a3 σ_1) fun t27 =>
 Do (aSlice .slice 32 t27 (some (.val (.int .i64 1))) none none) fun t28 =>
 storeA 1 a3 t28 σ_1 fun u_1 σ_2 =>
 Do (loadA true 32 t9 σ_2) fun t29 =>
 Do (aLit [.val (.int .u8 0), .val (.int .u8 0), .val (.int .u8 0), .val (.int .u8 0), .val (.int .u8 0), .val (.int .u8 0), .val (.int .u8 0), .val (.int .u8 0), .val (.int .u8 0), .val (.int .u8 0), .val (.int .u8 0), .val (.int .u8 0), .val (.int .u8 0), .val (.int .u8 0), .val (.int .u8 0), .val (.int .u8 0), .val (.int .u8 0), .val (.int .u8 0), .val (.int .u8 0), .val (.int .u8 0), .val (.int .u8 0), .val (.int .u8 0), .val (.int .u8 0), .val (.int .u8 0), .val (.int .u8 0), .val (.int .u8 0), .val (.int .u8 0), .val (.int .u8 0), .val (.int .u8 0), .val (.int .u8 0), .val (.int .u8 0), .val (.int .u8 0), .val (.slice none 0 0), .val (.pointer none), .val (.pointer none)] [(0, 32), (32, 1), (33, 1), (34, 1)] [(0, t29)]) fun t30 =>
 aNewVar 130 (t30 : AV).cells σ_2 fun t31 σ_3 =>
 Q (.ret t31) σ_3)
 (Do (aBin Tryz.prog .eql 3 a0 (.val (.int .i64 1))) fun t34 =>
 aCond t34
 (Do (loadF true 1 a4) fun t35 =>
 Do (loadF false 1 a2) fun t36 =>
 Do (aUn Tryz.prog .neg a1) fun t38 =>
 Do (aIndexAddr .slice 1 t36 t38) fun t39 =>
 Do (loadF false 1 t39) fun t40 =>
 Do (aPureC Tryz.prog 89 [t35, t40]) fun t41 =>
 Do (loadF false 1 a2) fun t42 =>
 Do (aUn Tryz.prog .neg a1) fun t44 =>
 Do (aIndexAddr .slice 1 t42 t44) fun t45 =>
 Do (loadF false 1 t45) fun t46 =>
 Do (aPureC Tryz.prog 94 [t46]) fun t47 =>
 Do (aLit [.val (.int .u8 0), .val (.int .u8 0), .val (.int .u8 0), .val (.int .u8 0), .val (.int .u8 0), .val (.int .u8 0), .val (.int .u8 0), .val (.int .u8 0), .val (.int .u8 0), .val (.int .u8 0), .val (.int .u8 0), .val (.int .u8 0), .val (.int .u8 0), .val (.int .u8 0), .val (.int .u8 0), .val (.int .u8 0), .val (.int .u8 0), .val (.int .u8 0), .val (.int .u8 0), .val (.int .u8 0), .val (.int .u8 0), .val (.int .u8 0), .val (.int .u8 0), .val (.int .u8 0), .val (.int .u8 0), .val (.int .u8 0), .val (.int .u8 0), .val (.int .u8 0), .val (.int .u8 0), .val (.int .u8 0), .val (.int .u8 0), .val (.int .u8 0), .val (.slice none 0 0), .val (.pointer none), .val (.pointer none)] [(0, 32), (32, 1), (33, 1), (34, 1)] [(0, t41), (1, t47)]) fun t48 =>
 aNewVar 130 (t48 : AV).cells σ fun t49 σ_4 =>
 Q (.ret t49) σ_4)
 (Do (aPureC Tryz.prog 95 [a0]) fun t51 =>
 Do (loadA false 1 a5 σ) fun t52 =>
 aCallV Tryz.prog t52 [t51, a1] σ (fun t55 σ_5 =>
 Do (loadA false 1 a5 σ_5) fun t56 =>
 Do (aBin Tryz.prog .sub 3 a0 t51) fun t59 =>
 Do (aBin Tryz.prog .sub 3 a1 t51) fun t62 =>
 aCallV Tryz.prog t56 [t59, t62] σ_5 (fun t63 σ_6 =>
 Do (loadF true 1 a4) fun t64 =>
 Do (aNil t55) fun t66 =>
 Do (aFieldAddr 0 32 t66) fun t67 =>
 Do (loadF true 32 t67) fun t68 =>
 Do (aNil t63) fun t70 =>
 Do (aFieldAddr 0 32 t70) fun t71 =>
 Do (loadF true 32 t71) fun t72 =>
 Do (aPureC Tryz.prog 91 [t64, t68, t72]) fun t73 =>
 Do (aNil t55) fun t75 =>
 Do (aFieldAddr 0 32 t75) fun t76 =>
 Do (loadF true 32 t76) fun t77 =>
 Do (aNil t63) fun t79 =>
 Do (aFieldAddr 0 32 t79) fun t80 =>
 Do (loadF true 32 t80) fun t81 =>
 Do (aPureC Tryz.prog 96 [t77, t81]) fun t82 =>
 Do (aLit [.val (.int .u8 0), .val (.int .u8 0), .val (.int .u8 0), .val (.int .u8 0), .val (.int .u8 0), .val (.int .u8 0), .val (.int .u8 0), .val (.int .u8 0), .val (.int .u8 0), .val (.int .u8 0), .val (.int .u8 0), .val (.int .u8 0), .val (.int .u8 0), .val (.int .u8 0), .val (.int .u8 0), .val (.int .u8 0), .val (.int .u8 0), .val (.int .u8 0), .val (.int .u8 0), .val (.int .u8 0), .val (.int .u8 0), .val (.int .u8 0), .val (.int .u8 0), .val (.int .u8 0), .val (.int .u8 0), .val (.int .u8 0), .val (.int .u8 0), .val (.int .u8 0), .val (.int .u8 0), .val (.int .u8 0), .val (.int .u8 0), .val (.int .u8 0), .val (.slice none 0 0), .val (.pointer none), .val (.pointer none)] [(0, 32), (32, 1), (33, 1), (34, 1)] [(0, t73), (1, t82), (2, t55), (3, t63)]) fun t85 =>
 aNewVar 130 (t85 : AV).cells σ_6 fun t86 σ_7 =>
 Q (.ret t86) σ_7) (fun e σ_8 => Q (.pan e) σ_8)) (fun e_1 σ_9 => Q (.pan e_1) σ_9)))
theorem clash_OfRange_1.eq (a0 a1 a2 a3 a4 a5 : AV) (σ : Store) (Q : AEnd → Store → Prop) : vc (semOf Tryz.prog clash_OfRange_1.mark) Tryz.f93.ntmps clash_OfRange_1.ann (bodyOf Tryz.f93) (endK [.tmp 8] Q) (argFr [a0, a1, a2, a3, a4, a5]) σ = clash_OfRange_1.sh a0 a1 a2 a3 a4 a5 σ Q := by kernel_rfl
theorem clash_OfRange_1.go {a0 a1 a2 a3 a4 a5 : AV} {σ : Store} {Q : AEnd → Store → Prop} (h : clash_OfRange_1.sh a0 a1 a2 a3 a4 a5 σ Q) : ACalls Tryz.prog 93 [a0, a1, a2, a3, a4, a5] σ Q :=
 acalls_of_eq [.tmp 8] Tryz.func93 (by kernel_rfl) (by kernel_rfl) (by kernel_rfl) (by kernel_rfl) (clash_OfRange_1.eq a0 a1 a2 a3 a4 a5 σ Q) h
abbrev grS (b : Int) (part : List (List UInt8)) (bp bg : Nat) (path : List D32) : Store := [.var bg GrT [grV b part bp bg], .var bp PaT [.lst 32 (path.map dgF) .ro]]
theorem grow_call {b : Int} {part : List (List UInt8)} {bp bg : Nat} {cnt : Nat} {p : Int} {path q : List D32} {x : Nd} {k kp : AV → Store → Prop}
  (h : ACalls Tryz.prog 93 [I .i64 (cnt : Nat), I .i64 p, .rptr [.lst 1 (part.map bl) .ro], ptrAt bp 0, .rptr [I .i64 b], ptrAt bg 0] (grS b part bp bg path) (fun r σ => r = .ret (ndF x) ∧ σ = grS b part bp bg q))
  (hk : k (ndF x) (grS b part bp bg q)) :
  aCall Tryz.prog 93 [I .i64 (cnt : Nat), I .i64 p, .rptr [.lst 1 (part.map bl) .ro], ptrAt bp 0, .rptr [I .i64 b], ptrAt bg 0] (grS b part bp bg path) k kp := by
 refine Or.inl ⟨_, _, Sub.refl _ _, h.mono ?_⟩
 rintro r τ ⟨e2, e3⟩
 rw [e2, e3]
 exact hk
theorem grow_ok (b : Int) (part : List (List UInt8)) (bp bg : Nat) (hpl : part.length ≤ 1000000000) (hpb : ∀ b ∈ part, b.length ≤ 10000000000000) : ∀ (n cnt : Nat) (p : Int) (path : List D32), cnt = n → 0 < cnt → cnt ≤ 9223372036854775807 → -9000000000000000000 ≤ p → p ≤ 9223372036854775807 - part.length → (rootR b part cnt p (path, false)).2.2 = false →
  ACalls Tryz.prog 93 [I .i64 (cnt : Nat), I .i64 p, .rptr [.lst 1 (part.map bl) .ro], ptrAt bp 0, .rptr [I .i64 b], ptrAt bg 0] (grS b part bp bg path) (fun r σ => r = .ret (ndF (growN b part cnt p path).1) ∧ σ = grS b part bp bg (growN b part cnt p path).2) := by
 intro n
 induction n using Nat.strongRecOn with
 | _ n ih =>
  intro cnt p path hn h0 h1 h2 h3 hbad
  refine ACalls.fin (clash_OfRange_1.go ?_)
  unfold clash_OfRange_1.sh
  by_cases h4 : p + part.length ≤ 0 ∨ (cnt : Int) ≤ p
  ·rw [growN_out h4]
   rw [rootR_out h4] at hbad
   have hz0 : 0 < path.length := by
    cases path with
    | nil => cases hbad
    | cons => simp
   have hx32 : (path.getD 0 default).val.length = 32 := (path.getD 0 default).len
   have hr32 : (List.replicate 32 (0 : UInt8)).length = 32 := by simp
   by_cases h5 : p + part.length ≤ 0
   ·repeat' (with_reducible first|apply Stp.go|refine imp fun _=>?_|refine zq ?_|refine zt ?_|refine zf ?_|refine zg ?_|refine za ?_|refine altF ?_|refine all fun _=>?_|refine both ?_ ?_|refine zu ?_|refine zv ?_|refine cho (fun _=>?_) fun _=>?_|refine zw ?_)
    rename_i x
    exact ⟨_, _, _, rfl, Sub.trans (Sub.frzVar (b := x)) (Sub.drop_ (List.sublist_cons_self _ _) _), rfl, rfl⟩
   ·have h6 : (cnt : Int) ≤ p := by omega
    repeat' (with_reducible first|apply Stp.go|refine imp fun _=>?_|refine zq ?_|refine zt ?_|refine zf ?_|refine zg ?_|refine za ?_|refine altF ?_|refine all fun _=>?_|refine both ?_ ?_|refine zu ?_|refine zv ?_|refine cho (fun _=>?_) fun _=>?_|refine zw ?_)
    rename_i x
    exact ⟨_, _, _, rfl, Sub.trans (Sub.frzVar (b := x)) (Sub.drop_ (List.sublist_cons_self _ _) _), rfl, rfl⟩
  ·have h5 : ¬ p + part.length ≤ 0 := by omega
   have h6 : ¬ (cnt : Int) ≤ p := by omega
   by_cases h7 : cnt = 1
   ·obtain ⟨j, rfl⟩ : ∃ j : Nat, p = -(j : Int) := ⟨(-p).toNat, by omega⟩
    have e : growN b part cnt (-(j : Int)) path = (.leaf ⟨leafD b (part.getD j default), Len32.len⟩ (part.getD j default), path) := by
     rw [growN_one h4 (by omega)]
     simp only [Int.neg_neg, Int.toNat_natCast]
    rw [e]
    have h8 : j < part.length := by omega
    have hb0 : (part.getD j default).length ≤ 10000000000000 := hpb _ (getD_mem h8)
    have hr32 : (List.replicate 32 (0 : UInt8)).length = 32 := by simp
    have n0 : (leafD b (part.getD j default)).length = 32 := Len32.len
    repeat' (with_reducible first|apply Stp.go|refine imp fun _=>?_|refine zq ?_|refine zt ?_|refine zf ?_|refine zg ?_|refine za ?_|refine altF ?_|refine all fun _=>?_|refine both ?_ ?_|refine zu ?_|refine zv ?_|refine cho (fun _=>?_) fun _=>?_|refine zw ?_)
    rename_i x
    exact ⟨_, _, _, rfl, Sub.frzVar (b := x), rfl, rfl⟩
   ·have hh := halfN_lt (n := cnt) (by omega)
    have hk := halfN_log (n := cnt) (m := 62) (by omega) (by omega)
    rw [rootR_two h4 (show ¬ cnt ≤ 1 by omega)] at hbad
    rw [growN_two h4 (show ¬ cnt ≤ 1 by omega)]
    have g1 := grow_root b part _ (halfN cnt) p path rfl
    obtain ⟨⟨q1, c1⟩, e2⟩ : ∃ z, z = (rootR b part (halfN cnt) p (path, false)).2 := ⟨_, rfl⟩
    rw [← e2] at hbad g1
    have hc1 : c1 = false := by
     cases c1 with
     | false => rfl
     | true =>
      have := rootR_bad b part _ (cnt - halfN cnt) (p - halfN cnt) q1 rfl
      dsimp only at hbad
      rw [this] at hbad; cases hbad
    subst hc1
    have g2 := (g1 rfl).2
    have c1 := ih (halfN cnt) (by omega) (halfN cnt) p path rfl (by omega) (by omega) h2 h3 (by rw [← e2])
    have c2 := ih (cnt - halfN cnt) (by omega) (cnt - halfN cnt) (p - (halfN cnt : Nat)) q1 rfl (by omega) (by omega) (by omega) (by omega) hbad
    dsimp only at g2
    rw [g2] at c1 ⊢
    obtain ⟨X, hX⟩ : ∃ X, X = (growN b part (halfN cnt) p path).1 := ⟨_, rfl⟩
    obtain ⟨Y, hY⟩ : ∃ Y, Y = (growN b part (cnt - halfN cnt) (p - (halfN cnt : Nat)) q1).1 := ⟨_, rfl⟩
    obtain ⟨q2, hq⟩ : ∃ q2, q2 = (growN b part (cnt - halfN cnt) (p - (halfN cnt : Nat)) q1).2 := ⟨_, rfl⟩
    rw [← hX] at c1 ⊢
    rw [← hY, ← hq] at c2 ⊢
    have n1 := X.d.len
    have n2 := Y.d.len
    have n3 : (nodeD b X.d.val Y.d.val).length = 32 := Len32.len
    clear g1 g2 e2 hX hY hq
    repeat' (with_reducible first|apply Stp.go|refine imp fun _=>?_|refine zq ?_|refine zt ?_|refine zf ?_|refine zg ?_|refine za ?_|refine altF ?_|refine all fun _=>?_|refine both ?_ ?_|refine zu ?_|refine zv ?_|refine cho (fun _=>?_) fun _=>?_|refine zw ?_)
    refine grow_call c1 ?_
    repeat' (with_reducible first|apply Stp.go|refine imp fun _=>?_|refine zq ?_|refine zt ?_|refine zf ?_|refine zg ?_|refine za ?_|refine altF ?_|refine all fun _=>?_|refine both ?_ ?_|refine zu ?_|refine zv ?_|refine cho (fun _=>?_) fun _=>?_|refine zw ?_)
    refine grow_call c2 ?_
    repeat' (with_reducible first|apply Stp.go|refine imp fun _=>?_|refine zq ?_|refine zt ?_|refine zf ?_|refine zg ?_|refine za ?_|refine altF ?_|refine all fun _=>?_|refine both ?_ ?_|refine zu ?_|refine zv ?_|refine cho (fun _=>?_) fun _=>?_|refine zw ?_)
    rename_i x
    exact ⟨_, _, _, rfl, Sub.frzVar (b := x), rfl, rfl⟩
end Go.Ab

namespace Go.Ab
open Go.Proofs
def walkN (b : Int) : Nd → List (List UInt8) → Option (List UInt8 × List UInt8)
 | .cut _, _ => none
 | .leaf _ t, L => if [0] ++ t = [0] ++ L.getD 0 default then none else some ([0] ++ t, [0] ++ L.getD 0 default)
 | .node _ l r, L =>
  if [1] ++ l.d.val ++ r.d.val = [1] ++ rootD b (L.take (halfN L.length)) ++ rootD b (L.drop (halfN L.length)) then
   match walkN b l (L.take (halfN L.length)) with
   | none => walkN b r (L.drop (halfN L.length))
   | some p => some p
  else some ([1] ++ l.d.val ++ r.d.val, [1] ++ rootD b (L.take (halfN L.length)) ++ rootD b (L.drop (halfN L.length)))
def fitN : Nd → List (List UInt8) → Prop
 | .cut _, _ => True
 | .leaf _ t, L => L.length = 1 ∧ t.length ≤ 10000000000000
 | .node _ l r, L => 2 ≤ L.length ∧ fitN l (L.take (halfN L.length)) ∧ fitN r (L.drop (halfN L.length))
abbrev WaT : TypeId := 133
abbrev waV (b : Int) (bw : Nat) : AV := .fn (.func 97) [] [.rptr [I .i64 b], ptrAt bw 0]
def clash_OfRange_2.mark : Mark := ⟨fun t => Nat.beq t 22 || Nat.beq t 26 || Nat.beq t 35 || Nat.beq t 40 || Nat.beq t 41, fun t => false, fun t => false, fun t => Nat.beq t 10 || Nat.beq t 18 || Nat.beq t 21 || Nat.beq t 30 || Nat.beq t 31 || Nat.beq t 36 || Nat.beq t 47 || Nat.beq t 56, fun t => false⟩
def clash_OfRange_2.ann : Ann := ⟨fun n => [], fun n => none, fun n => none⟩
def clash_OfRange_2.sh (a0 a1 a2 a3 : AV) (σ : Store) (Q : AEnd → Store → Prop) : Prop :=
 Do (aNil a0) fun t8 =>
 Do (aFieldAddr 32 1 t8) fun t9 =>
 Do (loadF false 1 t9) fun t10 =>
 Do (aBin Tryz.prog .eql 63 t10 (.val (.slice none 0 0))) fun t11 =>
 aCond t11
 (Q (.ret (.tuple [])) σ)
 (Do (aBuiltin Tryz.prog .len #[66] [a1]) fun t13 =>
 Do (aBin Tryz.prog .eql 3 t13 (.val (.int .i64 1))) fun t14 =>
 aCond t14
 (Do (aNil a0) fun t16 =>
 Do (aFieldAddr 32 1 t16) fun t17 =>
 Do (loadF false 1 t17) fun t18 =>
 Do (aIndexAddr .slice 1 a1 (.val (.int .i64 0))) fun t20 =>
 Do (loadF false 1 t20) fun t21 =>
 Do (aPureC Tryz.prog 94 [t21]) fun t22 =>
 aCall Tryz.prog 98 [t18, t22] σ (fun t23 σ =>
 Q (.ret (.tuple [])) σ) (fun e σ_1 => Q (.pan e) σ_1))
 (Do (aBuiltin Tryz.prog .len #[66] [a1]) fun t25 =>
 Do (aPureC Tryz.prog 95 [t25]) fun t26 =>
 Do (aNil a0) fun t28 =>
 Do (aFieldAddr 32 1 t28) fun t29 =>
 Do (loadF false 1 t29) fun t30 =>
 Do (loadF true 1 a2) fun t31 =>
 Do (aSlice .slice 1 a1 none (some t26) none) fun t34 =>
 Do (aPureC Tryz.prog 56 [t31, t34]) fun t35 =>
 Do (loadF true 1 a2) fun t36 =>
 Do (aSlice .slice 1 a1 (some t26) none none) fun t39 =>
 Do (aPureC Tryz.prog 56 [t36, t39]) fun t40 =>
 Do (aPureC Tryz.prog 96 [t35, t40]) fun t41 =>
 aCall Tryz.prog 98 [t30, t41] σ (fun t42 σ_2 =>
 Do (loadA false 1 a3 σ_2) fun t43 =>
 Do (aNil a0) fun t45 =>
 Do (aFieldAddr 33 1 t45) fun t46 =>
 Do (loadF false 1 t46) fun t47 =>
 Do (aSlice .slice 1 a1 none (some t26) none) fun t50 =>
 aCallV Tryz.prog t43 [t47, t50] σ_2 (fun t51 σ_3 =>
 Do (loadA false 1 a3 σ_3) fun t52 =>
 Do (aNil a0) fun t54 =>
 Do (aFieldAddr 34 1 t54) fun t55 =>
 Do (loadF false 1 t55) fun t56 =>
 Do (aSlice .slice 1 a1 (some t26) none none) fun t59 =>
 aCallV Tryz.prog t52 [t56, t59] σ_3 (fun t60 σ_4 =>
 Q (.ret (.tuple [])) σ_4) (fun e_1 σ_5 => Q (.pan e_1) σ_5)) (fun e_2 σ_6 => Q (.pan e_2) σ_6)) (fun e_3 σ_7 => Q (.pan e_3) σ_7)))
theorem clash_OfRange_2.eq (a0 a1 a2 a3 : AV) (σ : Store) (Q : AEnd → Store → Prop) : vc (semOf Tryz.prog clash_OfRange_2.mark) Tryz.f97.ntmps clash_OfRange_2.ann (bodyOf Tryz.f97) (endK [] Q) (argFr [a0, a1, a2, a3]) σ = clash_OfRange_2.sh a0 a1 a2 a3 σ Q := by kernel_rfl
theorem clash_OfRange_2.go {a0 a1 a2 a3 : AV} {σ : Store} {Q : AEnd → Store → Prop} (h : clash_OfRange_2.sh a0 a1 a2 a3 σ Q) : ACalls Tryz.prog 97 [a0, a1, a2, a3] σ Q :=
 acalls_of_eq [] Tryz.func97 (by kernel_rfl) (by kernel_rfl) (by kernel_rfl) (by kernel_rfl) (clash_OfRange_2.eq a0 a1 a2 a3 σ Q) h
abbrev waQ (b : Int) (bw : Nat) (x : Nd) (L : List (List UInt8)) (r : AEnd) (σ : Store) : Prop :=
 (walkN b x L = none ∧ r = .ret (.tuple []) ∧ σ = [.var bw WaT [waV b bw]]) ∨ (¬ walkN b x L = none ∧ r = .pan (foundV ((walkN b x L).getD ([], [])).1 ((walkN b x L).getD ([], [])).2) ∧ σ = [.var bw WaT [waV b bw]])
theorem wkCall {b : Int} {bw : Nat} {x : Nd} {L : List (List UInt8)} {k kp : AV → Store → Prop}
  (h : ACalls Tryz.prog 97 [ndF x, .lst 1 (L.map bl) .ro, .rptr [I .i64 b], ptrAt bw 0] [.var bw WaT [waV b bw]] (waQ b bw x L))
  (hk : walkN b x L = none → k (.tuple []) [.var bw WaT [waV b bw]]) (hp : ¬ walkN b x L = none → kp (foundV ((walkN b x L).getD ([], [])).1 ((walkN b x L).getD ([], [])).2) [.var bw WaT [waV b bw]]) :
  aCall Tryz.prog 97 [ndF x, .lst 1 (L.map bl) .ro, .rptr [I .i64 b], ptrAt bw 0] [.var bw WaT [waV b bw]] k kp := by
 refine Or.inl ⟨_, _, Sub.refl _ _, h.mono ?_⟩
 rintro r τ (⟨h1, e2, e3⟩ | ⟨h1, e2, e3⟩)
 ·rw [e2, e3]; exact hk h1
 ·rw [e2, e3]; exact hp h1
theorem walk_ok (b : Int) (bw : Nat) : ∀ (x : Nd) (L : List (List UInt8)), fitN x L → L.length ≤ 1000000 → (∀ b ∈ L, b.length ≤ 10000000000000) →
  ACalls Tryz.prog 97 [ndF x, .lst 1 (L.map bl) .ro, .rptr [I .i64 b], ptrAt bw 0] [.var bw WaT [waV b bw]] (waQ b bw x L) := by
 intro x
 induction x with
 | cut d =>
  intro L hf hL hb
  refine clash_OfRange_2.go ?_
  unfold clash_OfRange_2.sh
  repeat' (with_reducible first|apply Stp.go|refine imp fun _=>?_|refine zq ?_|refine zt ?_|refine zf ?_|refine zg ?_|refine za ?_|refine altF ?_|refine all fun _=>?_|refine both ?_ ?_|refine zu ?_|refine zv ?_|refine cho (fun _=>?_) fun _=>?_|refine zw ?_)
  dsimp only [ndT]
  repeat' (with_reducible first|apply Stp.go|refine imp fun _=>?_|refine zq ?_|refine zt ?_|refine zf ?_|refine zg ?_|refine za ?_|refine altF ?_|refine all fun _=>?_|refine both ?_ ?_|refine zu ?_|refine zv ?_|refine cho (fun _=>?_) fun _=>?_|refine zw ?_)
  exact .inl ⟨rfl, rfl, rfl⟩
 | leaf d t =>
  intro L hf hL hb
  obtain ⟨h1, ht⟩ := hf
  have hb0 : (L.getD 0 default).length ≤ 10000000000000 := hb _ (getD_mem (by omega))
  refine clash_OfRange_2.go ?_
  unfold clash_OfRange_2.sh
  repeat' (with_reducible first|apply Stp.go|refine imp fun _=>?_|refine zq ?_|refine zt ?_|refine zf ?_|refine zg ?_|refine za ?_|refine altF ?_|refine all fun _=>?_|refine both ?_ ?_|refine zu ?_|refine zv ?_|refine cho (fun _=>?_) fun _=>?_|refine zw ?_)
  dsimp only [ndT]
  repeat' (with_reducible first|apply Stp.go|refine imp fun _=>?_|refine zq ?_|refine zt ?_|refine zf ?_|refine zg ?_|refine za ?_|refine altF ?_|refine all fun _=>?_|refine both ?_ ?_|refine zu ?_|refine zv ?_|refine cho (fun _=>?_) fun _=>?_|refine zw ?_)
  dsimp only [ndT]
  unfold waQ
  unfold walkN
  repeat' (with_reducible first|apply Stp.go|refine imp fun _=>?_|refine zq ?_|refine zt ?_|refine zf ?_|refine zg ?_|refine za ?_|refine altF ?_|refine all fun _=>?_|refine both ?_ ?_|refine zu ?_|refine zv ?_|refine cho (fun _=>?_) fun _=>?_|refine zw ?_)
  ·rename_i h
   rw [if_pos h]
   exact .inl ⟨rfl, rfl, rfl⟩
  ·rename_i h
   rw [if_neg h]
   exact .inr ⟨by simp, rfl, rfl⟩
 | node d l r il ir =>
  intro L hf hL hb
  obtain ⟨h1, f1, f2⟩ := hf
  have hh := halfN_lt (n := L.length) (by omega)
  have b1 : ∀ b ∈ L.take (halfN L.length), b.length ≤ 10000000000000 := fun b h => hb b (List.mem_of_mem_take h)
  have b2 : ∀ b ∈ L.drop (halfN L.length), b.length ≤ 10000000000000 := fun b h => hb b (List.mem_of_mem_drop h)
  have l1 : (L.take (halfN L.length)).length = halfN L.length := by rw [List.length_take]; omega
  have l2 : (L.drop (halfN L.length)).length = L.length - halfN L.length := by rw [List.length_drop]
  have s1 : (L.take (halfN L.length)).length ≤ 1000000 ∧ ∀ b ∈ L.take (halfN L.length), b.length ≤ 100000000000000 := ⟨by omega, fun b h => Nat.le_trans (b1 b h) (by decide)⟩
  have s2 : (L.drop (halfN L.length)).length ≤ 1000000 ∧ ∀ b ∈ L.drop (halfN L.length), b.length ≤ 100000000000000 := ⟨by omega, fun b h => Nat.le_trans (b2 b h) (by decide)⟩
  have c1 := il (L.take (halfN L.length)) f1 (by omega) b1
  have c2 := ir (L.drop (halfN L.length)) f2 (by omega) b2
  have n1 := l.d.len
  have n2 := r.d.len
  refine clash_OfRange_2.go ?_
  unfold clash_OfRange_2.sh
  repeat' (with_reducible first|apply Stp.go|refine imp fun _=>?_|refine zq ?_|refine zt ?_|refine zf ?_|refine zg ?_|refine za ?_|refine altF ?_|refine all fun _=>?_|refine both ?_ ?_|refine zu ?_|refine zv ?_|refine cho (fun _=>?_) fun _=>?_|refine zw ?_)
  dsimp only [ndT]
  repeat' (with_reducible first|apply Stp.go|refine imp fun _=>?_|refine zq ?_|refine zt ?_|refine zf ?_|refine zg ?_|refine za ?_|refine altF ?_|refine all fun _=>?_|refine both ?_ ?_|refine zu ?_|refine zv ?_|refine cho (fun _=>?_) fun _=>?_|refine zw ?_)
  dsimp only [ndT]
  unfold waQ
  unfold walkN
  repeat' (with_reducible first|apply Stp.go|refine imp fun _=>?_|refine zq ?_|refine zt ?_|refine zf ?_|refine zg ?_|refine za ?_|refine altF ?_|refine all fun _=>?_|refine both ?_ ?_|refine zu ?_|refine zv ?_|refine cho (fun _=>?_) fun _=>?_|refine zw ?_)
  ·rename_i h
   rw [if_pos h]
   dsimp only [ndT]
   refine wkCall c1 (fun g => ?_) (fun g => ?_)
   ·repeat' (with_reducible first|apply Stp.go|refine imp fun _=>?_|refine zq ?_|refine zt ?_|refine zf ?_|refine zg ?_|refine za ?_|refine altF ?_|refine all fun _=>?_|refine both ?_ ?_|refine zu ?_|refine zv ?_|refine cho (fun _=>?_) fun _=>?_|refine zw ?_)
    dsimp only [ndT]
    refine wkCall c2 (fun g2 => ?_) (fun g2 => ?_)
    ·rw [g]
     exact .inl ⟨g2, rfl, rfl⟩
    ·rw [g]
     exact .inr ⟨g2, rfl, rfl⟩
   ·cases hw : walkN b l (L.take (halfN L.length)) with
    | none => exact absurd hw g
    | some p => exact .inr ⟨by simp, rfl, rfl⟩
  ·rename_i h
   rw [if_neg h]
   exact .inr ⟨by simp, rfl, rfl⟩
end Go.Ab

namespace Go.Ab
open Go.Proofs
theorem grow_fit (b : Int) (part : List (List UInt8)) (hpb : ∀ b ∈ part, b.length ≤ 10000000000000) : ∀ (n : Nat) (L : List (List UInt8)) (p : Int) (path : List D32), L.length = n → 0 < n → fitN (growN b part n p path).1 L := by
 intro n
 induction n using Nat.strongRecOn with
 | _ n ih =>
  intro L p path hn h0
  by_cases h : p + part.length ≤ 0 ∨ (n : Int) ≤ p
  ·rw [growN_out h]; trivial
  ·by_cases h1 : n ≤ 1
   ·rw [growN_one h h1]
    exact ⟨by omega, hpb _ (getD_mem (by omega))⟩
   ·rw [growN_two h h1]
    have hh := halfN_lt (n := n) (by omega)
    refine ⟨by omega, ?_, ?_⟩
    ·rw [hn]
     exact ih (halfN n) (by omega) (L.take (halfN n)) p path (by rw [List.length_take]; omega) (by omega)
    ·rw [hn]
     exact ih (n - halfN n) (by omega) (L.drop (halfN n)) _ _ (by rw [List.length_drop, hn]) (by omega)
def rangeP (b : Int) (L : List (List UInt8)) (p : Int) (part : List (List UInt8)) (path : List D32) : Option (List UInt8 × List UInt8) :=
 if checkR b (rootF b L) (L.length : Nat) p part path = true then walkN b (growN b part L.length p path).1 L else none
abbrev ToT : TypeId := 128
def clash_OfRange_3.mark : Mark := ⟨fun t => false, fun t => false, fun t => false, fun t => Nat.beq t 5, fun t => false⟩
def clash_OfRange_3.ann : Ann := ⟨fun n => [], fun n => none, fun n => none⟩
def clash_OfRange_3.sh (a0 a1 a2 : AV) (σ : Store) (Q : AEnd → Store → Prop) : Prop :=
 Do (loadA false 1 a0 σ) fun t3 =>
 Do (loadA false 1 a1 σ) fun t4 =>
 Do (loadF false 1 a2) fun t5 =>
 aCallV Tryz.prog t3 [t4, t5] σ (fun t6 σ =>
 Q (.ret (.tuple [])) σ) (fun e σ_1 => Q (.pan e) σ_1)
theorem clash_OfRange_3.eq (a0 a1 a2 : AV) (σ : Store) (Q : AEnd → Store → Prop) : vc (semOf Tryz.prog clash_OfRange_3.mark) Tryz.f100.ntmps clash_OfRange_3.ann (bodyOf Tryz.f100) (endK [] Q) (argFr [a0, a1, a2]) σ = clash_OfRange_3.sh a0 a1 a2 σ Q := by kernel_rfl
theorem clash_OfRange_3.go {a0 a1 a2 : AV} {σ : Store} {Q : AEnd → Store → Prop} (h : clash_OfRange_3.sh a0 a1 a2 σ Q) : ACalls Tryz.prog 100 [a0, a1, a2] σ Q :=
 acalls_of_eq [] Tryz.func100 (by kernel_rfl) (by kernel_rfl) (by kernel_rfl) (by kernel_rfl) (clash_OfRange_3.eq a0 a1 a2 σ Q) h
def clash_OfRange.mark : Mark := ⟨fun t => Nat.beq t 19 || Nat.beq t 25, fun t => false, fun t => Nat.beq t 5 || Nat.beq t 6 || Nat.beq t 8, fun t => Nat.beq t 16 || Nat.beq t 17 || Nat.beq t 18 || Nat.beq t 20 || Nat.beq t 23 || Nat.beq t 29, fun t => false⟩
def clash_OfRange.ann : Ann := ⟨fun n => [], fun n => none, fun n => none⟩
def clash_OfRange.sh (a0 a1 a2 a3 a4 : AV) (σ : Store) (Q : AEnd → Store → Prop) : Prop :=
 Do (aFreeze ((a0 : AV)).cells) fun t5 =>
 Do (aFreeze ((a1 : AV)).cells) fun t6 =>
 Do (aFreeze ((a3 : AV)).cells) fun t8 =>
 aNewVar 125 (a4 : AV).cells σ fun t9 σ =>
 Do (loadF true 1 t5) fun t16 =>
 Do (loadF true 1 t5) fun t17 =>
 Do (loadF false 1 t6) fun t18 =>
 Do (aPureC Tryz.prog 56 [t17, t18]) fun t19 =>
 Do (loadF false 1 t6) fun t20 =>
 Do (aBuiltin Tryz.prog .len #[66] [t20]) fun t21 =>
 Do (loadF false 1 t8) fun t23 =>
 Do (loadA false 1 t9 σ) fun t24 =>
 Do (aPureC Tryz.prog 92 [t16, t19, t21, a2, t23, t24]) fun t25 =>
 Do (aUn Tryz.prog .not t25) fun t26 =>
 aCond t26
 (Q (.ret (.tuple [(.val (.slice none 0 0)), (.val (.slice none 0 0)), (.val (.bool false))])) σ)
 (aNewVar 127 [.val .nilFunc] σ fun t13 σ_1 =>
 storeA 1 t13 (.fn (.func 93) [] [t8, t9, t5, t13]) σ_1 fun u σ_2 =>
 Do (loadA false 1 t13 σ_2) fun t28 =>
 Do (loadF false 1 t6) fun t29 =>
 Do (aBuiltin Tryz.prog .len #[66] [t29]) fun t30 =>
 aCallV Tryz.prog t28 [t30, a2] σ_2 (fun t32 σ_3 =>
 aNewVar 128 [.val (.pointer none)] σ_3 fun t14 σ_4 =>
 storeA 1 t14 t32 σ_4 fun u_1 σ_5 =>
 aNewVar 133 [.val .nilFunc] σ_5 fun t15 σ_6 =>
 storeA 1 t15 (.fn (.func 97) [] [t5, t15]) σ_6 fun u_2 σ_7 =>
 aCall Tryz.prog 99 [(.fn (.func 100) [] [t15, t14, t6])] σ_7 (fun t35 σ_8 =>
 Do (aExt t35 0) fun t36 =>
 Do (aExt t35 1) fun t37 =>
 Do (aExt t35 2) fun t38 =>
 Q (.ret (.tuple [t36, t37, t38])) σ_8) (fun e σ_9 => Q (.pan e) σ_9)) (fun e_1 σ_10 => Q (.pan e_1) σ_10))
theorem clash_OfRange.eq (a0 a1 a2 a3 a4 : AV) (σ : Store) (Q : AEnd → Store → Prop) : vc (semOf Tryz.prog clash_OfRange.mark) Tryz.f57.ntmps clash_OfRange.ann (bodyOf Tryz.f57) (endK [.tmp 10, .tmp 11, .tmp 12] Q) (argFr [a0, a1, a2, a3, a4]) σ = clash_OfRange.sh a0 a1 a2 a3 a4 σ Q := by kernel_rfl
theorem clash_OfRange.go {a0 a1 a2 a3 a4 : AV} {σ : Store} {Q : AEnd → Store → Prop} (h : clash_OfRange.sh a0 a1 a2 a3 a4 σ Q) : ACalls Tryz.prog 57 [a0, a1, a2, a3, a4] σ Q :=
 acalls_of_eq [.tmp 10, .tmp 11, .tmp 12] Tryz.func57 (by kernel_rfl) (by kernel_rfl) (by kernel_rfl) (by kernel_rfl) (clash_OfRange.eq a0 a1 a2 a3 a4 σ Q) h
instance : One (.val .nilFunc) := ⟨rfl⟩
theorem of3_ok (b : Int) (bw bt : Nat) (x : Nd) (L : List (List UInt8)) (hf : fitN x L) (hL : L.length ≤ 1000000) (hb : ∀ b ∈ L, b.length ≤ 10000000000000) :
  ACalls Tryz.prog 100 [ptrAt bw 0, ptrAt bt 0, .rptr [.lst 1 (L.map bl) .ro]] [.var bw WaT [waV b bw], .var bt ToT [ndF x]] fun r σ => (walkN b x L = none ∧ r = .ret (.tuple []) ∧ σ = [.var bw WaT [waV b bw], .var bt ToT [ndF x]]) ∨ (¬ walkN b x L = none ∧ r = .pan (foundV ((walkN b x L).getD ([], [])).1 ((walkN b x L).getD ([], [])).2) ∧ σ = [.var bw WaT [waV b bw], .var bt ToT [ndF x]]) := by
 refine clash_OfRange_3.go ?_
 unfold clash_OfRange_3.sh
 repeat' (with_reducible first|apply Stp.go|refine imp fun _=>?_|refine zq ?_|refine zt ?_|refine zf ?_|refine zg ?_|refine za ?_|refine altF ?_|refine all fun _=>?_|refine both ?_ ?_|refine zu ?_|refine zv ?_|refine cho (fun _=>?_) fun _=>?_|refine zw ?_)
 refine Or.inl ⟨_, _, Sub.refl _ _, ((walk_ok b bw x L hf hL hb).frame [.var bt ToT [ndF x]]).mono ?_⟩
 rintro r τ ⟨σ1, e1, _, h⟩
 rcases h with ⟨h1, e2, e3⟩ | ⟨h1, e2, e3⟩
 ·rw [e2, e1, e3]
  exact .inl ⟨h1, rfl, rfl⟩
 ·rw [e2, e1, e3]
  exact .inr ⟨h1, rfl, rfl⟩
theorem clashRange_ok (b : Int) (L : List (List UInt8)) (p : Int) (part : List (List UInt8)) (path : List D32) (h0 : 0 < L.length) (hL : L.length ≤ 1000000) (hb : ∀ b ∈ L, b.length ≤ 10000000000000) (hpl : part.length ≤ 1000000000) (hpb : ∀ b ∈ part, b.length ≤ 10000000000000) :
  aPure Tryz.prog 57 [trA b, .lst 1 (L.map bl) .ro, I .i64 p, .lst 1 (part.map bl) .ro, .lst 32 (path.map dgF) .ro] (.tuple [.lst 1 (((rangeP b L p part path).getD ([], [])).1.map byt) .ro, .lst 1 (((rangeP b L p part path).getD ([], [])).2.map byt) .ro, B (decide (¬ rangeP b L p part path = none))]) := by
 refine ACalls.fin (clash_OfRange.go ?_)
 unfold clash_OfRange.sh
 have q1 := (rootF b L).len
 have hb2 : L.length ≤ 1000000 ∧ ∀ b ∈ L, b.length ≤ 100000000000000 := ⟨hL, fun b h => Nat.le_trans (hb b h) (by decide)⟩
 have hpb2 : ((L.length : Nat) : Int) ≤ 9223372036854775807 ∧ part.length ≤ 1000000000 ∧ ∀ b ∈ part, b.length ≤ 100000000000000 := ⟨by omega, hpl, fun b h => Nat.le_trans (hpb b h) (by decide)⟩
 cases hc : checkR b (rootF b L) (L.length : Nat) p part path with
 | false =>
  have e : rangeP b L p part path = none := by unfold rangeP; rw [hc]; rfl
  rw [e]
  repeat' (with_reducible first|apply Stp.go|refine imp fun _=>?_|refine zq ?_|refine zt ?_|refine zf ?_|refine zg ?_|refine za ?_|refine altF ?_|refine all fun _=>?_|refine both ?_ ?_|refine zu ?_|refine zv ?_|refine cho (fun _=>?_) fun _=>?_|refine zw ?_)
  exact ⟨_, _, _, rfl, Sub.tuple (retNil byt (by decide) (retNil byt (by decide) (Sub.app_nil _))), rfl, rfl⟩
 | true =>
  have e : rangeP b L p part path = walkN b (growN b part L.length p path).1 L := by unfold rangeP; rw [hc]; rfl
  rw [e]
  have hc2 := hc
  rw [checkR, Bool.and_eq_true, decide_eq_true_eq, Bool.and_eq_true, Bool.and_eq_true, Bool.not_eq_true', Int.toNat_natCast] at hc2
  obtain ⟨⟨p1, p2, p3, p4⟩, ⟨hbad, _⟩, _⟩ := hc2
  have hf := grow_fit b part hpb _ L p path rfl h0
  have hg := fun bp bg => grow_ok b part bp bg hpl hpb _ L.length p path rfl h0 (by omega) (by omega) (by omega) hbad
  generalize growN b part L.length p path = G at *
  repeat' (with_reducible first|apply Stp.go|refine imp fun _=>?_|refine zq ?_|refine zt ?_|refine zf ?_|refine zg ?_|refine za ?_|refine altF ?_|refine all fun _=>?_|refine both ?_ ?_|refine zu ?_|refine zv ?_|refine cho (fun _=>?_) fun _=>?_|refine zw ?_)
  rename_i bp bg
  refine grow_call (hg bp bg) ?_
  repeat' (with_reducible first|apply Stp.go|refine imp fun _=>?_|refine zq ?_|refine zt ?_|refine zf ?_|refine zg ?_|refine za ?_|refine altF ?_|refine all fun _=>?_|refine both ?_ ?_|refine zu ?_|refine zv ?_|refine cho (fun _=>?_) fun _=>?_|refine zw ?_)
  rename_i bt bw
  have hs := seek_ok 100 [ptrAt bw 0, ptrAt bt 0, .rptr [.lst 1 (L.map bl) .ro]] [.var bw WaT [waV b bw], .var bt ToT [ndF G.1]] (walkN b G.1 L = none) ((walkN b G.1 L).getD ([], [])).1 ((walkN b G.1 L).getD ([], [])).2 (of3_ok b bw bt G.1 L hf hL hb)
  refine Or.inl ⟨_, _, subS _, hs.mono ?_⟩
  rintro r τ (⟨h, e2, e3⟩ | ⟨h, e2, e3⟩)
  ·rw [e2, e3, h]
   simp only [onEnd]
   repeat' (with_reducible first|apply Stp.go|refine imp fun _=>?_|refine zq ?_|refine zt ?_|refine zf ?_|refine zg ?_|refine za ?_|refine altF ?_|refine all fun _=>?_|refine both ?_ ?_|refine zu ?_|refine zv ?_|refine cho (fun _=>?_) fun _=>?_|refine zw ?_)
   exact ⟨_, _, _, rfl, Sub.app_nil _, rfl, rfl⟩
  ·rw [e2, e3, decide_eq_true h]
   simp only [onEnd]
   repeat' (with_reducible first|apply Stp.go|refine imp fun _=>?_|refine zq ?_|refine zt ?_|refine zf ?_|refine zg ?_|refine za ?_|refine altF ?_|refine all fun _=>?_|refine both ?_ ?_|refine zu ?_|refine zv ?_|refine cho (fun _=>?_) fun _=>?_|refine zw ?_)
   exact ⟨_, _, _, rfl, Sub.app_nil _, rfl, rfl⟩
instance {a1 a3 a4 : AV} {b : Int} {L : List (List UInt8)} {p : Int} {part : List (List UInt8)} {path : List D32} {m m' m'' : SM} [h1 : IsL a1 bl 1 L m] [h3 : IsL a3 bl 1 part m'] [h4 : IsL a4 dgF 32 path m''] : PC Tryz.prog 57 [trA b, a1, I .i64 p, a3, a4] (0 < L.length ∧ L.length ≤ 1000000 ∧ (∀ b ∈ L, b.length ≤ 10000000000000) ∧ part.length ≤ 1000000000 ∧ ∀ b ∈ part, b.length ≤ 10000000000000) (.tuple [.lst 1 (((rangeP b L p part path).getD ([], [])).1.map byt) .ro, .lst 1 (((rangeP b L p part path).getD ([], [])).2.map byt) .ro, B (decide (¬ rangeP b L p part path = none))]) := ⟨fun hl => ⟨[trA b, .lst 1 (L.map bl) .ro, I .i64 p, .lst 1 (part.map bl) .ro, .lst 32 (path.map dgF) .ro], ⟨SubV.refl _, fun R v hv => SubV.ro _ _ _ R v (h1.sub R v hv), SubV.refl _, fun R v hv => SubV.ro _ _ _ R v (h3.sub R v hv), fun R v hv => SubV.ro _ _ _ R v (h4.sub R v hv), trivial⟩, clashRange_ok b L p part path hl.1 hl.2.1 hl.2.2.1 hl.2.2.2.1 hl.2.2.2.2⟩⟩
theorem walk_clash (b : Int) (part : List (List UInt8)) : ∀ (n : Nat) (L : List (List UInt8)) (p : Int) (path : List D32), L.length = n → 0 < n → (growN b part n p path).1.d.val = rootD b L →
  (walkN b (growN b part n p path).1 L = none ∧ ∀ j : Nat, j < n → p ≤ j → (j : Int) < p + part.length → part.getD ((j : Int) - p).toNat default = L.getD j default) ∨ twoP b (walkN b (growN b part n p path).1 L) = true := by
 intro n
 induction n using Nat.strongRecOn with
 | _ n ih =>
  intro L p path hn h0 hr
  by_cases h : p + part.length ≤ 0 ∨ (n : Int) ≤ p
  ·rw [growN_out h]
   exact .inl ⟨rfl, fun j h1 h2 h3 => by omega⟩
  ·by_cases h1 : n ≤ 1
   ·rw [growN_one h h1] at hr ⊢
    dsimp only [Nd.d] at hr
    unfold walkN
    rw [rootD_one b (by omega)] at hr
    by_cases he : [0] ++ part.getD (-p).toNat default = [0] ++ L.getD 0 default
    ·rw [if_pos he]
     refine .inl ⟨rfl, fun j g1 g2 g3 => ?_⟩
     have := (cat_inj (a := [0]) (c := [0]) he rfl).2
     have hj : j = 0 := by omega
     subst hj
     rw [← this]
     congr 1
     omega
    ·rw [if_neg he]
     exact .inr (two_mk he hr)
   ·rw [growN_two h h1] at hr ⊢
    have hh := halfN_lt (n := n) (by omega)
    have l1 : (L.take (halfN n)).length = halfN n := by rw [List.length_take]; omega
    have l2 : (L.drop (halfN n)).length = n - halfN n := by rw [List.length_drop, hn]
    have i1 := ih (halfN n) (by omega) (L.take (halfN n)) p path l1 (by omega)
    have i2 := ih (n - halfN n) (by omega) (L.drop (halfN n)) (p - halfN n) (growN b part (halfN n) p path).2 l2 (by omega)
    generalize growN b part (n - halfN n) (p - halfN n) (growN b part (halfN n) p path).2 = Y at *
    generalize growN b part (halfN n) p path = X at *
    dsimp only [Nd.d] at hr
    dsimp only
    unfold walkN
    rw [rootD_two b (by omega), hn] at hr
    rw [hn]
    have q1 := X.1.d.len
    have q2 := rootD_len b (L.take (halfN n))
    by_cases he : [1] ++ X.1.d.val ++ Y.1.d.val = [1] ++ rootD b (L.take (halfN n)) ++ rootD b (L.drop (halfN n))
    ·rw [if_pos he]
     have hx := cat_inj he (by simp only [List.length_append, q1, q2])
     have hx1 := (cat_inj (a := [1]) (c := [1]) hx.1 rfl).2
     rcases i1 hx1 with ⟨g1, g2⟩ | g
     ·rw [g1]
      dsimp only
      rcases i2 hx.2 with ⟨k1, k2⟩ | k
      ·refine .inl ⟨k1, fun j u1 u2 u3 => ?_⟩
       by_cases hj : j < halfN n
       ·rw [g2 j hj u2 u3, List.getD_eq_getElem?_getD, List.getD_eq_getElem?_getD, List.getElem?_take, if_pos hj]
       ·have := k2 (j - halfN n) (by omega) (by omega) (by omega)
        have e6 : ((j - halfN n : Nat) : Int) - (p - (halfN n : Nat)) = (j : Int) - p := by omega
        rw [e6] at this
        rw [this, List.getD_eq_getElem?_getD, List.getD_eq_getElem?_getD, List.getElem?_drop]
        congr 2
        omega
      ·exact .inr k
     ·refine .inr ?_
      cases hw : walkN b X.1 (L.take (halfN n)) with
      | none => rw [hw] at g; cases g
      | some z => rw [hw] at g; exact g
    ·rw [if_neg he]
     exact .inr (two_mk he hr)
theorem range_clash (b : Int) {L : List (List UInt8)} {p : Int} {part : List (List UInt8)} {path : List D32} (h : checkR b (rootF b L) (L.length : Nat) p part path = true) : (∀ j : Nat, j < part.length → part.getD j default = L.getD (p.toNat + j) default) ∨ twoP b (rangeP b L p part path) = true := by
 have h0 := h
 rw [checkR, Bool.and_eq_true, decide_eq_true_eq, Bool.and_eq_true, Bool.and_eq_true, Bool.not_eq_true', Int.toNat_natCast, decide_eq_true_eq, decide_eq_true_eq] at h
 obtain ⟨⟨p1, p2, p3, p4⟩, ⟨hbad, _⟩, hroot⟩ := h
 have hg := (grow_root b part _ L.length p path rfl hbad).1
 rcases walk_clash b part _ L p path rfl (by omega) (by rw [hg]; exact hroot) with ⟨_, g⟩ | g
 ·refine .inl fun j hj => ?_
  have := g (p.toNat + j) (by omega) (by omega) (by omega)
  rw [← this]
  congr 1
  omega
 ·refine .inr ?_
  unfold rangeP
  rw [if_pos h0]
  exact g
theorem walkN_txt (b : Int) : ∀ (x : Nd) (L : List (List UInt8)), fitN x L → (∀ b ∈ L, b.length ≤ 10000000000000) → ∀ p, walkN b x L = some p → p.1.length ≤ 100000000000000 ∧ p.2.length ≤ 100000000000000 := by
 intro x
 induction x with
 | cut d => intro L _ _ p h; cases h
 | leaf d t =>
  intro L hf hb p h
  obtain ⟨h1, h2⟩ := hf
  have h3 := hb _ (getD_mem (l := L) (i := 0) (by omega))
  unfold walkN at h
  split at h
  ·cases h
  ·cases h
   dsimp only
   simp only [List.length_append, List.length_singleton]
   omega
 | node d l r il ir =>
  intro L hf hb p h
  obtain ⟨h1, f1, f2⟩ := hf
  unfold walkN at h
  split at h
  ·cases hw : walkN b l (L.take (halfN L.length)) with
   | none =>
    rw [hw] at h
    exact ir _ f2 (fun b h => hb b (List.mem_of_mem_drop h)) p h
   | some z =>
    rw [hw] at h
    cases h
    exact il _ f1 (fun b h => hb b (List.mem_of_mem_take h)) _ hw
  ·cases h
   dsimp only
   simp only [List.length_append, List.length_singleton, l.d.len, r.d.len, rootD_len]
   omega
theorem rangeP_len (b : Int) (L : List (List UInt8)) (p : Int) (part : List (List UInt8)) (path : List D32) (h0 : 0 < L.length) (hb : ∀ b ∈ L, b.length ≤ 10000000000000) (hpb : ∀ b ∈ part, b.length ≤ 10000000000000) : ((rangeP b L p part path).getD ([], [])).1.length ≤ 100000000000000 ∧ ((rangeP b L p part path).getD ([], [])).2.length ≤ 100000000000000 := by
 unfold rangeP
 split
 ·cases h : walkN b (growN b part L.length p path).1 L with
  | none => exact ⟨Nat.zero_le _, Nat.zero_le _⟩
  | some w => exact walkN_txt b _ L (grow_fit b part hpb _ L p path rfl h0) hb w h
 ·exact ⟨Nat.zero_le _, Nat.zero_le _⟩
end Go.Ab

namespace Go.Ab
open Go.Proofs
def listsP (b : Int) (L M : List (List UInt8)) : Option (List UInt8 × List UInt8) := if L.length = M.length ∧ 0 < L.length then rangeP b L 0 M [] else none
theorem lists_clash (b : Int) {L M : List (List UInt8)} (hl : L.length = M.length) (h0 : 0 < L.length) (hr : rootF b L = rootF b M) : M = L ∨ twoP b (listsP b L M) = true := by
 have hc : checkR b (rootF b L) (L.length : Nat) 0 M [] = true := by
  have h1 := rootR_bs b M L.length M 0 [] false hl.symm (by omega) (fun j _ _ _ => by congr 1)
  rw [bsD_all b _ M 0 _ rfl (by omega) (by omega) (by omega)] at h1
  have h1 : rootR b M L.length 0 ([], false) = (rootF b M, [], false) := h1
  unfold checkR
  rw [Int.toNat_natCast, h1, hr]
  simp
  try omega
 have h2 := range_clash b hc
 unfold listsP
 rw [if_pos ⟨hl, h0⟩]
 rcases h2 with h | h
 ·refine .inl ?_
  apply List.ext_getElem (by omega)
  intro i h3 h4
  have := h i h3
  rw [List.getD_eq_getElem?_getD, List.getElem?_eq_getElem h3, List.getD_eq_getElem?_getD, Int.toNat_zero, Nat.zero_add, List.getElem?_eq_getElem h4] at this
  exact this
 ·exact .inr h
def clash_OfLists.mark : Mark := ⟨fun t => Nat.beq t 22, fun t => false, fun t => Nat.beq t 3, fun t => Nat.beq t 19, fun t => false⟩
def clash_OfLists.ann : Ann := ⟨fun n => [], fun n => none, fun n => none⟩
def clash_OfLists.sh (a0 a1 a2 : AV) (σ : Store) (Q : AEnd → Store → Prop) : Prop :=
 Do (aFreeze ((a0 : AV)).cells) fun t3 =>
 Do (aBuiltin Tryz.prog .len #[66] [a1]) fun t10 =>
 Do (aBuiltin Tryz.prog .len #[66] [a2]) fun t12 =>
 Do (aBin Tryz.prog .neq 3 t10 t12) fun t13 =>
 Do (aGuard t13 false (aIs a1)) fun t15 =>
 Do (aGuard t13 false (aBuiltin Tryz.prog .len #[66] [t15])) fun t16 =>
 Do (aGuard t13 false (aBin Tryz.prog .eql 3 t16 (.val (.int .i64 0)))) fun t17 =>
 Do (aPick t13 (.val (.bool true)) t17) fun t18 =>
 aCond t18
 (Q (.ret (.tuple [(.val (.slice none 0 0)), (.val (.slice none 0 0)), (.val (.bool false))])) σ)
 (Do (loadF true 1 t3) fun t19 =>
 Do (aPureC Tryz.prog 57 [t19, a1, (.val (.int .i64 0)), a2, (.val (.slice none 0 0))]) fun t22 =>
 Do (aExt t22 0) fun t23 =>
 Do (aExt t22 1) fun t24 =>
 Do (aExt t22 2) fun t25 =>
 Q (.ret (.tuple [t23, t24, t25])) σ)
theorem clash_OfLists.eq (a0 a1 a2 : AV) (σ : Store) (Q : AEnd → Store → Prop) : vc (semOf Tryz.prog clash_OfLists.mark) Tryz.f28.ntmps clash_OfLists.ann (bodyOf Tryz.f28) (endK [.tmp 6, .tmp 7, .tmp 8] Q) (argFr [a0, a1, a2]) σ = clash_OfLists.sh a0 a1 a2 σ Q := by kernel_rfl
theorem clash_OfLists.go {a0 a1 a2 : AV} {σ : Store} {Q : AEnd → Store → Prop} (h : clash_OfLists.sh a0 a1 a2 σ Q) : ACalls Tryz.prog 28 [a0, a1, a2] σ Q :=
 acalls_of_eq [.tmp 6, .tmp 7, .tmp 8] Tryz.func28 (by kernel_rfl) (by kernel_rfl) (by kernel_rfl) (by kernel_rfl) (clash_OfLists.eq a0 a1 a2 σ Q) h
def law17_two.mark : Mark := ⟨fun t => Nat.beq t 20 || Nat.beq t 23, fun t => false, fun t => false, fun t => false, fun t => false⟩
def law17_two.ann : Ann := ⟨fun n => [], fun n => none, fun n => none⟩
def law17_two.sh (a0 a1 a2 a3 : AV) (σ : Store) (Q : AEnd → Store → Prop) : Prop :=
 Do (aGuard a3 true (aIs a1)) fun t11 =>
 Do (aGuard a3 true (aConvBS t11)) fun t12 =>
 Do (aGuard a3 true (aIs a2)) fun t13 =>
 Do (aGuard a3 true (aConvBS t13)) fun t14 =>
 Do (aGuard a3 true (aBin Tryz.prog .neq 9 t12 t14)) fun t15 =>
 Do (aPick a3 t15 (.val (.bool false))) fun t16 =>
 Do (aGuard t16 true (aIs a1)) fun t18 =>
 Do (aGuard t16 true (aIs a0)) fun t19 =>
 Do (aGuard t16 true (aPureC Tryz.prog 59 [t18, t19])) fun t20 =>
 Do (aGuard t16 true (aIs a2)) fun t21 =>
 Do (aGuard t16 true (aIs a0)) fun t22 =>
 Do (aGuard t16 true (aPureC Tryz.prog 59 [t21, t22])) fun t23 =>
 Do (aGuard t16 true (aBin Tryz.prog .eql 56 t20 t23)) fun t24 =>
 Do (aPick t16 t24 (.val (.bool false))) fun t25 =>
 Q (.ret t25) σ
theorem law17_two.eq (a0 a1 a2 a3 : AV) (σ : Store) (Q : AEnd → Store → Prop) : vc (semOf Tryz.prog law17_two.mark) Tryz.f30.ntmps law17_two.ann (bodyOf Tryz.f30) (endK [.tmp 8] Q) (argFr [a0, a1, a2, a3]) σ = law17_two.sh a0 a1 a2 a3 σ Q := by kernel_rfl
theorem law17_two.go {a0 a1 a2 a3 : AV} {σ : Store} {Q : AEnd → Store → Prop} (h : law17_two.sh a0 a1 a2 a3 σ Q) : ACalls Tryz.prog 30 [a0, a1, a2, a3] σ Q :=
 acalls_of_eq [.tmp 8] Tryz.func30 (by kernel_rfl) (by kernel_rfl) (by kernel_rfl) (by kernel_rfl) (law17_two.eq a0 a1 a2 a3 σ Q) h
theorem OfLists_ok (b : Int) (L M : List (List UInt8)) (hL : L.length ≤ 1000000) (hb : ∀ b ∈ L, b.length ≤ 10000000000000) (hpl : M.length ≤ 1000000) (hpb : ∀ b ∈ M, b.length ≤ 10000000000000) :
  aPure Tryz.prog 28 [trA b, .lst 1 (L.map bl) .ro, .lst 1 (M.map bl) .ro] (.tuple [.lst 1 (((listsP b L M).getD ([], [])).1.map byt) .ro, .lst 1 (((listsP b L M).getD ([], [])).2.map byt) .ro, B (decide (¬ listsP b L M = none))]) := by
 refine ACalls.fin (clash_OfLists.go ?_)
 unfold clash_OfLists.sh
 have hpl2 : M.length ≤ 1000000000 := by omega
 have iN : IsL (.val (.slice none 0 0)) dgF 32 [] .ro := ⟨fun R v h => SubV.ro 32 [] .nil R v (SubV.nil 32 (by decide) R v h)⟩
 by_cases h : L.length = M.length ∧ 0 < L.length
 ·have e : listsP b L M = rangeP b L 0 M [] := by unfold listsP; rw [if_pos h]
  rw [e]
  obtain ⟨h1, h2⟩ := h
  repeat' (with_reducible first|apply Stp.go|refine imp fun _=>?_|refine zq ?_|refine zt ?_|refine zf ?_|refine zg ?_|refine za ?_|refine altF ?_|refine all fun _=>?_|refine both ?_ ?_|refine zu ?_|refine zv ?_|refine cho (fun _=>?_) fun _=>?_|refine zw ?_)
  exact ⟨_, _, _, rfl, Sub.app_nil _, rfl, rfl⟩
 ·have e : listsP b L M = none := by unfold listsP; rw [if_neg h]
  rw [e]
  by_cases h1 : L.length = M.length
  ·have h2 : L.length = 0 := by omega
   repeat' (with_reducible first|apply Stp.go|refine imp fun _=>?_|refine zq ?_|refine zt ?_|refine zf ?_|refine zg ?_|refine za ?_|refine altF ?_|refine all fun _=>?_|refine both ?_ ?_|refine zu ?_|refine zv ?_|refine cho (fun _=>?_) fun _=>?_|refine zw ?_)
   all_goals exact ⟨_, _, _, rfl, Sub.tuple (retNil byt (by decide) (retNil byt (by decide) (Sub.app_nil _))), rfl, rfl⟩
  ·repeat' (with_reducible first|apply Stp.go|refine imp fun _=>?_|refine zq ?_|refine zt ?_|refine zf ?_|refine zg ?_|refine za ?_|refine altF ?_|refine all fun _=>?_|refine both ?_ ?_|refine zu ?_|refine zv ?_|refine cho (fun _=>?_) fun _=>?_|refine zw ?_)
   all_goals exact ⟨_, _, _, rfl, Sub.tuple (retNil byt (by decide) (retNil byt (by decide) (Sub.app_nil _))), rfl, rfl⟩
instance {a1 a3 : AV} {b : Int} {L M : List (List UInt8)} {m m' : SM} [h1 : IsL a1 bl 1 L m] [h3 : IsL a3 bl 1 M m'] : PC Tryz.prog 28 [trA b, a1, a3] (L.length ≤ 1000000 ∧ (∀ b ∈ L, b.length ≤ 10000000000000) ∧ M.length ≤ 1000000 ∧ ∀ b ∈ M, b.length ≤ 10000000000000) (.tuple [.lst 1 (((listsP b L M).getD ([], [])).1.map byt) .ro, .lst 1 (((listsP b L M).getD ([], [])).2.map byt) .ro, B (decide (¬ listsP b L M = none))]) := ⟨fun hl => ⟨[trA b, .lst 1 (L.map bl) .ro, .lst 1 (M.map bl) .ro], ⟨SubV.refl _, fun R v hv => SubV.ro _ _ _ R v (h1.sub R v hv), fun R v hv => SubV.ro _ _ _ R v (h3.sub R v hv), trivial⟩, OfLists_ok b L M hl.1 hl.2.1 hl.2.2.1 hl.2.2.2⟩⟩
theorem listsP_len (b : Int) (L M : List (List UInt8)) (hb : ∀ b ∈ L, b.length ≤ 10000000000000) (hpb : ∀ b ∈ M, b.length ≤ 10000000000000) : ((listsP b L M).getD ([], [])).1.length ≤ 100000000000000 ∧ ((listsP b L M).getD ([], [])).2.length ≤ 100000000000000 := by
 unfold listsP
 split
 ·rename_i h
  exact rangeP_len b L 0 M [] h.2 hb hpb
 ·exact ⟨Nat.zero_le _, Nat.zero_le _⟩
theorem two17_ok (b : Int) (x y : List UInt8) (ok : Bool) (hx : x.length ≤ 100000000000000) (hy : y.length ≤ 100000000000000) : aPure Tryz.prog 30 [I .i64 b, .lst 1 (x.map byt) .ro, .lst 1 (y.map byt) .ro, B ok] (B (ok && decide (¬ x = y) && decide (kept x b = kept y b))) := by
 refine law17_two.go ?_
 unfold law17_two.sh
 have k1 := kept_length x b
 have k2 := kept_length y b
 cases ok
 ·repeat' (with_reducible first|apply Stp.go|refine imp fun _=>?_|refine zq ?_|refine zt ?_|refine zf ?_|refine zg ?_|refine za ?_|refine altF ?_|refine all fun _=>?_|refine both ?_ ?_|refine zu ?_|refine zv ?_|refine cho (fun _=>?_) fun _=>?_|refine zw ?_)
  all_goals exact ⟨rfl, rfl⟩
 ·by_cases h : x = y
  ·repeat' (with_reducible first|apply Stp.go|refine imp fun _=>?_|refine zq ?_|refine zt ?_|refine zf ?_|refine zg ?_|refine za ?_|refine altF ?_|refine all fun _=>?_|refine both ?_ ?_|refine zu ?_|refine zv ?_|refine cho (fun _=>?_) fun _=>?_|refine zw ?_)
   all_goals exact ⟨by simp_all, rfl⟩
  ·repeat' (with_reducible first|apply Stp.go|refine imp fun _=>?_|refine zq ?_|refine zt ?_|refine zf ?_|refine zg ?_|refine za ?_|refine altF ?_|refine all fun _=>?_|refine both ?_ ?_|refine zu ?_|refine zv ?_|refine cho (fun _=>?_) fun _=>?_|refine zw ?_)
   all_goals exact ⟨by simp_all, rfl⟩
instance {a c : AV} {x y : List UInt8} {m m' : SM} {b : Int} {ok : Bool} [h1 : IsL a byt 1 x m] [h2 : IsL c byt 1 y m'] : PC Tryz.prog 30 [I .i64 b, a, c, B ok] (x.length ≤ 100000000000000 ∧ y.length ≤ 100000000000000) (B (ok && decide (¬ x = y) && decide (kept x b = kept y b))) := ⟨fun hl => ⟨[I .i64 b, .lst 1 (x.map byt) .ro, .lst 1 (y.map byt) .ro, B ok], ⟨SubV.refl _, fun R v hv => SubV.ro _ _ _ R v (h1.sub R v hv), fun R v hv => SubV.ro _ _ _ R v (h2.sub R v hv), SubV.refl _, trivial⟩, two17_ok b x y ok hl.1 hl.2⟩⟩
end Go.Ab

namespace Go.Ab
theorem enB_inj {x y : En} (hx : right x = true) (hy : right y = true) (h : enB x = enB y) : x = y := by
 have h1 := parse_put x hx []
 have h2 := parse_put y hy []
 rw [List.append_nil, ← enB_right hx] at h1
 rw [List.append_nil, ← enB_right hy, ← h, h1] at h2
 simp only [Option.some.injEq, Prod.mk.injEq] at h2
 exact h2.1
theorem map_enB_inj : ∀ {l m : List En}, (∀ e ∈ l, right e = true) → (∀ e ∈ m, right e = true) → l.map enB = m.map enB → l = m
 | [], [], _, _, _ => rfl
 | [], _ :: _, _, _, h => by cases h
 | _ :: _, [], _, _, h => by cases h
 | x :: l, y :: m, hl, hm, h => by
  simp only [List.map_cons, List.cons.injEq] at h
  rw [enB_inj (hl x List.mem_cons_self) (hm y List.mem_cons_self) h.1, map_enB_inj (fun e he => hl e (List.mem_cons_of_mem _ he)) (fun e he => hm e (List.mem_cons_of_mem _ he)) h.2]
theorem ok_clash {b : Int} {x : TabR} {r c : List En} (hr : OkRow b x r) (hc : OkRow b x c) (hne : ¬ c = r) : twoP b (listsP b (r.map enB) (c.map enB)) = true := by
 have e : newT b x.lev.toNat r = newT b x.lev.toNat c := hr.eq.trans hc.eq.symm
 have e1 : ((r.length : Nat) : Int) = (c.length : Nat) := congrArg TabR.cnt e
 have e2 : rootF b (r.map enB) = rootF b (c.map enB) := congrArg TabR.root e
 have h0 := (fit_right hr.fit).2.1
 rcases lists_clash b (L := r.map enB) (M := c.map enB) (by simp only [List.length_map]; omega) (by simp only [List.length_map]; omega) e2 with h | h
 ·exact absurd (map_enB_inj (fun e he => fit_mem hc.fit he) (fun e he => fit_mem hr.fit he) h) hne
 ·exact h
theorem compact_zero {b : Int} {l : List TabR} {RS : List (List En)} (h : (compactT b l RS).2 = 0) : lvlT l < 3 ∧ RowsOf b l (inK l (lvlT l)) RS := by
 revert h
 unfold compactT
 split
 ·rename_i hr
  split
  ·rename_i hk
   split
   ·rename_i ha
    intro _
    obtain ⟨hm, _, _⟩ := (rightT_iff l).1 hr
    exact ⟨hk, ha.1.symm, fun j hj => by
     have := ha.2
     unfold allOk at this
     rw [decide_eq_true_eq] at this
     exact (okB_iff (hm _ (getD_memT (inK_mem.1 (getD_memT hj)).1))).1 (this j hj)⟩
   ·intro h; cases h
  ·intro h; cases h
 ·intro h; cases h
theorem inputs_two {l : List TabR} (h : rightT l = true) : ∃ (J : List Nat) (t : Int) (i : Bool), inputsR l = .tuple [.lst 1 (J.map itN) .ro, I .i64 t, B i] ∧ (∀ j, j < J.length → J.getD j default < l.length) ∧ J.length ≤ l.length ∧ (lvlT l < 3 → J = inK l (lvlT l) ∧ i = true) := by
 unfold inputsR pickR
 rw [if_pos h]
 by_cases hk : lvlT l < 3
 ·rw [if_pos hk]
  refine ⟨inK l (lvlT l), _, _, by rw [map_itN], fun j hj => (inK_mem.1 (getD_memT hj)).1, Nat.le_trans (List.length_filter_le _ _) (by rw [List.length_range]; exact Nat.le_refl _), fun _ => ⟨rfl, rfl⟩⟩
 ·rw [if_neg hk]
  exact ⟨[], _, _, rfl, fun j hj => (by cases hj), Nat.zero_le _, fun h => absurd h hk⟩
def ownF (z : Value × List En) : AV := .own z.1 z.2.length
abbrev lsF (z : Value × List En) : AV := enL z.2
instance : Enc ownF 1 := ⟨told_one fun z => ⟨rfl, rfl⟩, by decide, fun z => rfl⟩
instance (z : Value × List En) : Cells (ownF z) [ownF z] := ⟨rfl⟩
instance : ElemF [.val (.slice none 0 0)] (Value × List En) ownF := ⟨trivial⟩
instance (v : Value) (l : List En) : AsF ownF (.own v l.length) (v, l) := ⟨rfl⟩
theorem vrs_at {R : RO} {vs : List Value} {p q : List AV} {x y : AV} (h : ∀ v, VR R v x → VR R v y) (hv : VRs R vs (p ++ x :: q)) : VRs R vs (p ++ y :: q) := by
 refine ⟨by rw [hv.1]; simp, fun j u v hu hx => ?_⟩
 rcases Nat.lt_trichotomy j p.length with g | g | g
 ·exact hv.2 j u v (by rw [List.getElem?_append_left g] at hu ⊢; exact hu) hx
 ·subst g
  simp at hu
  subst hu
  exact h _ (hv.2 p.length x v (by simp) hx)
 ·refine hv.2 j u v ?_ hx
  rw [List.getElem?_append_right (by omega)] at hu ⊢
  cases hn : j - p.length with
  | zero => omega
  | succ k => rw [hn] at hu; exact hu
theorem st_retell {R : RO} {w : World} {e e' : Ent} {σ : Store} (hs : St R w (e :: σ)) (hb : e'.blk = e.blk) (he : EntOk R w e') : St R w (e' :: σ) ∧ Ext R w (e :: σ) R w (e' :: σ) := by
 have hp := List.pairwise_cons.1 hs.apart
 have hk : blks (e' :: σ) = blks (e :: σ) := by
  unfold blks
  simp only [List.filterMap_cons, hb]
 exact ⟨⟨hs.ro, fun x hx => by
  rcases List.mem_cons.1 hx with rfl | hx
  ·exact he
  ·exact hs.ents x (List.mem_cons_of_mem _ hx), List.pairwise_cons.2 ⟨fun x hx b h => hp.1 x hx b (hb ▸ h), hp.2⟩⟩,
  ⟨fun _ _ h => h, rfl, rfl, rfl, Nat.le_refl _, fun _ _ _ => rfl, fun k h => .inl (hk ▸ h), fun _ _ h => .inl h⟩⟩
abbrev rowE (E : TypeId) (z : Value × List En) : Ent := .row z.1 E 4 (z.2.map En.av) 0
theorem Sub.rows (V : Value) (E E' : TypeId) (fl : Nat) (σ : Store) (us : List AV) : ∀ (zs : List (Value × List En)) (p : List AV), Sub (.row V E' 1 (p ++ zs.map ownF) fl :: (zs.map (rowE E) ++ σ)) us (.row V E' 1 (p ++ zs.map lsF) fl :: σ) us
 | [], p => Sub.refl _ _
 | z :: zs, p => fun R w vs hv hs => by
  obtain ⟨R1, h1, h2, h3, h4⟩ := freeze_row (σ1 := [.row V E' 1 (p ++ (z :: zs).map ownF) fl]) (v := z.1) (E := E) (sz := 4) (l := z.2.map En.av) (fl := 0) (σ2 := zs.map (rowE E) ++ σ) hs
  have hx : ∀ v, VR R1 v (ownF z) → VR R1 v (lsF z) := fun v hv => by
   have := hv.own_inv.1
   rw [this]; exact h4
  obtain ⟨q0, q1, ⟨xs, q2, q3, q4⟩, q5, q6⟩ := h2.ents (.row V E' 1 (p ++ (z :: zs).map ownF) fl) (by simp)
  have ef : ∀ y : AV, y.cells = [y] → flat (p ++ y :: zs.map ownF) = flat p ++ y :: flat (zs.map ownF) := fun y hy => by
   unfold flat
   rw [List.flatMap_append, List.flatMap_cons, hy]; rfl
  have hl : (p ++ lsF z :: zs.map ownF).length = (p ++ (z :: zs).map ownF).length := by simp
  obtain ⟨g1, g2⟩ := st_retell h2 (e' := .row V E' 1 (p ++ lsF z :: zs.map ownF) fl) rfl ⟨q0, fun e he => by
   rcases List.mem_append.1 he with he | he
   ·exact q1 e (List.mem_append.2 (.inl he))
   ·rcases List.mem_cons.1 he with rfl | he
    ·rfl
    ·exact q1 e (List.mem_append.2 (.inr (List.mem_cons_of_mem _ he))), ⟨xs, by rw [hl]; exact q2, by
   rw [ef _ rfl]
   refine vrs_at hx ?_
   rw [← ef _ rfl]; exact q3, q4⟩, by rw [hl]; exact q5, fun a x ha hb => by rw [hl]; exact q6 a x ha hb⟩
  have ih := Sub.rows V E E' fl σ us zs (p ++ [lsF z])
  rw [List.append_assoc, List.append_assoc] at ih
  obtain ⟨R2, k1, k2, k3⟩ := ih R1 w vs (hv.mono h1) g1
  exact ⟨R2, k1, k2, (h3.trans g2).trans k3⟩
end Go.Ab

namespace Go.Ab
open Go.Proofs
instance (priority := 90) shrI {P : Program} {x y : Int} {a : Nat} {t : TypeId} {k' : IntKind} {K : AV → Prop} [k : NatOf y a] : Stp (Do (aBin P .shr t (.val (.int .i64 x)) (.val (.int k' y))) K) (K (.val (.int .i64 (x.fdiv (2 ^ (min a 64)))))) := ⟨fun h => s_shr (by rw [k.eq]; omega) (by rw [k.eq, Int.toNat_natCast]; exact h)⟩
theorem split_at_d {α : Type} [Inhabited α] : ∀ {l : List α} {i : Nat}, i < l.length → l = l.take i ++ l.getD i default :: l.drop (i + 1)
 | _ :: _, 0, _ => rfl
 | x :: l, i + 1, h => congrArg (x :: ·) (split_at_d (l := l) (i := i) (Nat.lt_of_succ_lt_succ h))
instance srcEn {σ : Store} {l : List En} : SrcI 4 σ (enL l) En En.av l := srcL
def law17_MoveSound.mark : Mark := ⟨fun t => Nat.beq t 38 || Nat.beq t 45 || Nat.beq t 51 || Nat.beq t 107 || Nat.beq t 148 || Nat.beq t 171 || Nat.beq t 203 || Nat.beq t 214 || Nat.beq t 219 || Nat.beq t 220 || Nat.beq t 228, fun t => Nat.beq t 118, fun t => Nat.beq t 13, fun t => Nat.beq t 70 || Nat.beq t 76 || Nat.beq t 86 || Nat.beq t 88 || Nat.beq t 106 || Nat.beq t 123 || Nat.beq t 125 || Nat.beq t 146 || Nat.beq t 195 || Nat.beq t 200 || Nat.beq t 202 || Nat.beq t 211 || Nat.beq t 213 || Nat.beq t 218, fun t => false⟩
def law17_MoveSound.ann : Ann := ⟨fun n => bif Nat.beq n 8 then [0, 3, 4, 5, 13, 16, 17, 18, 20, 22, 23] else bif Nat.beq n 14 then [0, 3, 4, 5, 13, 16, 17, 18, 20, 22, 24, 25] else bif Nat.beq n 20 then [0, 5, 13, 16, 17, 18, 20, 22, 24, 26] else bif Nat.beq n 35 then [0, 16, 18, 20, 24, 33] else [], fun n => bif Nat.beq n 29 then some [0, 16, 17, 18, 20, 22, 24] else none, fun n => none⟩
def law17_MoveSound.sh (a0 a1 a2 a3 a4 a5 a6 : AV) (σ : Store) (Q : AEnd → Store → Prop) : Prop :=
 Do (aFreeze ((a6 : AV)).cells) fun t13 =>
 Do (aPureC Tryz.prog 7 []) fun t38 =>
 Do (aLit [.val (.int .i64 0)] [(0, 1)] [(0, a0)]) fun t40 =>
 aNewVar 27 [.val (.int .i64 0)] σ fun t16 σ =>
 storeA 1 t16 t40 σ fun u σ_1 =>
 Do (loadA true 1 t16 σ_1) fun t42 =>
 Do (aPureC Tryz.prog 8 [t42, a1, a2]) fun t45 =>
 Do (aExt t45 0) fun t46 =>
 Do (aExt t45 1) fun t47 =>
 Do (aExt t45 2) fun t48 =>
 Do (aPureC Tryz.prog 9 [t46]) fun t51 =>
 Do (aExt t51 0) fun t52 =>
 Do (aExt t51 1) fun t53 =>
 Do (aExt t51 2) fun t54 =>
 Do (aUn Tryz.prog .not t38) fun t56 =>
 Do (aGuard t56 false (aIs t48)) fun t58 =>
 Do (aGuard t56 false (aUn Tryz.prog .not t58)) fun t59 =>
 Do (aPick t56 (.val (.bool true)) t59) fun t60 =>
 aCond t60
 (Q (.ret (.val (.bool false))) σ_1)
 (aLoop (fun go vs σ_2 =>
 At vs 0 fun s0 => At vs 1 fun s3 => At vs 2 fun s4 => At vs 3 fun s5 => At vs 4 fun s13 => At vs 5 fun s16 => At vs 6 fun s17 => At vs 7 fun s18 => At vs 8 fun s20 => At vs 9 fun s22 => At vs 10 fun s23 => Do (aBuiltin Tryz.prog .len #[23] [s20]) fun t63 =>
 Do (aBin Tryz.prog .lss 3 s23 t63) fun t64 =>
 aCond t64
 (Do (aIndexAddr .slice 1 s20 s23) fun t69 =>
 Do (loadF false 1 t69) fun t70 =>
 Do (aBin Tryz.prog .lss 3 t70 (.val (.int .i64 0))) fun t71 =>
 Do (aGuard t71 false (aIs s20)) fun t73 =>
 Do (aGuard t71 false (aIs s23)) fun t74 =>
 Do (aGuard t71 false (aIndexAddr .slice 1 t73 t74)) fun t75 =>
 Do (aGuard t71 false (loadF false 1 t75)) fun t76 =>
 Do (aGuard t71 false (aIs s18)) fun t77 =>
 Do (aGuard t71 false (aBuiltin Tryz.prog .len #[22] [t77])) fun t78 =>
 Do (aGuard t71 false (aBin Tryz.prog .geq 3 t76 t78)) fun t79 =>
 Do (aPick t71 (.val (.bool true)) t79) fun t80 =>
 Do (aGuard t80 false (aIs s18)) fun t82 =>
 Do (aGuard t80 false (aIs s20)) fun t83 =>
 Do (aGuard t80 false (aIs s23)) fun t84 =>
 Do (aGuard t80 false (aIndexAddr .slice 1 t83 t84)) fun t85 =>
 Do (aGuard t80 false (loadF false 1 t85)) fun t86 =>
 Do (aGuard t80 false (aIndexAddr .slice 1 t82 t86)) fun t87 =>
 Do (aGuard t80 false (loadF false 1 t87)) fun t88 =>
 Do (aGuard t80 false (aBuiltin Tryz.prog .len #[33] [t88])) fun t89 =>
 Do (aGuard t80 false (aBin Tryz.prog .eql 3 t89 (.val (.int .i64 0)))) fun t90 =>
 Do (aPick t80 (.val (.bool true)) t90) fun t91 =>
 aCond t91
 (Q (.ret (.val (.bool false))) σ_2)
 (Do (aBin Tryz.prog .add 3 s23 (.val (.int .i64 1))) fun t66 =>
 go [s0, s3, s4, s5, s13, s16, s17, s18, s20, s22, t66] σ_2))
 (aLoop (fun go_1 vs_1 σ_3 =>
 At vs_1 0 fun s0_1 => At vs_1 1 fun s3_1 => At vs_1 2 fun s4_1 => At vs_1 3 fun s5_1 => At vs_1 4 fun s13_1 => At vs_1 5 fun s16_1 => At vs_1 6 fun s17_1 => At vs_1 7 fun s18_1 => At vs_1 8 fun s20_1 => At vs_1 9 fun s22_1 => At vs_1 10 fun s24 => At vs_1 11 fun s25 => Do (aBuiltin Tryz.prog .len #[22] [s3_1]) fun t94 =>
 Do (aBin Tryz.prog .lss 3 s25 t94) fun t95 =>
 Do (aGuard t95 true (aIs s25)) fun t97 =>
 Do (aGuard t95 true (aBin Tryz.prog .lss 3 t97 (.val (.int .i64 8)))) fun t98 =>
 Do (aPick t95 t98 (.val (.bool false))) fun t99 =>
 aCond t99
 (Do (aIndexAddr .slice 1 s3_1 s25) fun t105 =>
 Do (loadF false 1 t105) fun t106 =>
 Do (aPureC Tryz.prog 12 [t106, (.val (.int .i64 20))]) fun t107 =>
 Do (aSlLit (mkE [.val (.slice none 0 0)]) 1 1 [(0, t107)]) fun t108 =>
 aAppend 33 1 24 s24 t108 σ_3 (subK fun t109 σ_4 =>
 Do (aBin Tryz.prog .add 3 s25 (.val (.int .i64 1))) fun t101 =>
 go_1 [s0_1, s3_1, s4_1, s5_1, s13_1, s16_1, s17_1, s18_1, s20_1, s22_1, t109, t101] σ_4))
 (aJoin (fun j =>
 aCond s4_1
 (aLoop (fun go_2 vs_3 σ_6 =>
 At vs_3 0 fun s0_2 => At vs_3 1 fun s5_2 => At vs_3 2 fun s13_2 => At vs_3 3 fun s16_2 => At vs_3 4 fun s17_2 => At vs_3 5 fun s18_2 => At vs_3 6 fun s20_2 => At vs_3 7 fun s22_2 => At vs_3 8 fun s24_1 => At vs_3 9 fun s26 => Do (aBuiltin Tryz.prog .len #[23] [s20_2]) fun t113 =>
 Do (aBin Tryz.prog .lss 3 s26 t113) fun t114 =>
 aCond t114
 (aRowL 50 (mkE [.val (.string ⟨#[]⟩), .val (.string ⟨#[]⟩), .val (.bool false), .val (.int .i64 0)]) 4 0 [] σ_6 fun t118 σ_7 =>
 Do (aIndexAddr .slice 1 s20_2 s26) fun t122 =>
 Do (loadF false 1 t122) fun t123 =>
 Do (aIndexAddr .slice 1 s18_2 t123) fun t124 =>
 Do (loadF false 1 t124) fun t125 =>
 aAppend 50 4 48 t118 t125 σ_7 (subK fun t126 σ_8 =>
 Do (aSlLit (mkE [.val (.slice none 0 0)]) 1 1 [(0, t126)]) fun t127 =>
 aAppend 33 1 24 s24_1 t127 σ_8 (subK fun t128 σ_9 =>
 Do (aBin Tryz.prog .add 3 s26 (.val (.int .i64 1))) fun t116 =>
 go_2 [s0_2, s5_2, s13_2, s16_2, s17_2, s18_2, s20_2, s22_2, t128, t116] σ_9)))
 (Do (aBuiltin Tryz.prog .len #[22] [s24_1]) fun t130 =>
 Do (aBin Tryz.prog .gtr 3 t130 (.val (.int .i64 0))) fun t131 =>
 aCond t131
 (Do (aBin Tryz.prog .and 3 s5_2 (.val (.int .i64 255))) fun t133 =>
 Do (aBuiltin Tryz.prog .len #[22] [s24_1]) fun t135 =>
 Do (aBin Tryz.prog .rem 3 t133 t135) fun t136 =>
 Do (aBin Tryz.prog .shr 3 s5_2 (W64 8)) fun t138 =>
 Do (aBin Tryz.prog .and 3 t138 (.val (.int .i64 255))) fun t139 =>
 Do (aIndexAddr .slice 1 s24_1 t136) fun t142 =>
 Do (loadA false 1 t142 σ_6) fun t143 =>
 Do (aBuiltin Tryz.prog .len #[33] [t143]) fun t144 =>
 Do (aBin Tryz.prog .rem 3 t139 t144) fun t145 =>
 Do (loadF true 4 s13_2) fun t146 =>
 Do (aSlLit (mkE [.val (.string ⟨#[]⟩), .val (.string ⟨#[]⟩), .val (.bool false), .val (.int .i64 0)]) 4 1 [(0, t146)]) fun t147 =>
 Do (aPureC Tryz.prog 12 [t147, (.val (.int .i64 1))]) fun t148 =>
 Do (aIndexAddr .slice 4 t148 (.val (.int .i64 0))) fun t149 =>
 Do (loadA true 4 t149 σ_6) fun t150 =>
 aNewVar 50 [.val (.string ⟨#[]⟩), .val (.string ⟨#[]⟩), .val (.bool false), .val (.int .i64 0)] σ_6 fun t29 σ_10 =>
 storeA 4 t29 t150 σ_10 fun u_1 σ_11 =>
 Do (aIndexAddr .slice 1 s24_1 t136) fun t153 =>
 Do (loadA false 1 t153 σ_11) fun t154 =>
 Do (aIndexAddr .slice 4 t154 t145) fun t156 =>
 Do (aFieldAddr 0 1 t156) fun t157 =>
 Do (loadA false 1 t157 σ_11) fun t158 =>
 Do (aFieldAddr 0 1 t29) fun t159 =>
 storeA 1 t159 t158 σ_11 fun u_2 σ_12 =>
 Do (aIndexAddr .slice 1 s24_1 t136) fun t162 =>
 Do (loadA false 1 t162 σ_12) fun t163 =>
 Do (loadA true 4 t29 σ_12) fun t165 =>
 Do (aIndexAddr .slice 4 t163 t145) fun t166 =>
 storeA 4 t166 t165 σ_12 fun u_3 σ_13 =>
 j [s0_2, s16_2, s17_2, s18_2, s20_2, s22_2, s24_1] σ_13)
 (j [s0_2, s16_2, s17_2, s18_2, s20_2, s22_2, s24_1] σ_6)))
 [s0_1, s5_1, s13_1, s16_1, s17_1, s18_1, s20_1, s22_1, (.val (.slice none 0 0)), (.val (.int .i64 0))] σ_3)
 (j [s0_1, s16_1, s17_1, s18_1, s20_1, s22_1, s24] σ_3)) fun vs_2 σ_5 =>
 At vs_2 0 fun s0_3 => At vs_2 1 fun s16_3 => At vs_2 2 fun s17_3 => At vs_2 3 fun s18_3 => At vs_2 4 fun s20_3 => At vs_2 5 fun s22_3 => At vs_2 6 fun s24_2 => Do (loadA true 1 s16_3 σ_5) fun t168 =>
 Do (aPureC Tryz.prog 13 [t168, s17_3, s24_2]) fun t171 =>
 Do (aExt t171 0) fun t172 =>
 Do (aExt t171 1) fun t173 =>
 Do (aExt t171 2) fun t174 =>
 Do (aBin Tryz.prog .neq 35 t174 (.val (.int .i64 0))) fun t176 =>
 aCond t176
 (Q (.ret (.val (.bool true))) σ_5)
 (Do (aUn Tryz.prog .not s22_3) fun t178 =>
 Do (aGuard t178 false (aIs s24_2)) fun t180 =>
 Do (aGuard t178 false (aBuiltin Tryz.prog .len #[22] [t180])) fun t181 =>
 Do (aGuard t178 false (aIs s20_3)) fun t182 =>
 Do (aGuard t178 false (aBuiltin Tryz.prog .len #[23] [t182])) fun t183 =>
 Do (aGuard t178 false (aBin Tryz.prog .neq 3 t181 t183)) fun t184 =>
 Do (aPick t178 (.val (.bool true)) t184) fun t185 =>
 aCond t185
 (Q (.ret (.val (.bool false))) σ_5)
 (aLoop (fun go_3 vs_4 σ_14 =>
 At vs_4 0 fun s0_4 => At vs_4 1 fun s16_4 => At vs_4 2 fun s18_4 => At vs_4 3 fun s20_4 => At vs_4 4 fun s24_3 => At vs_4 5 fun s33 => Do (aBuiltin Tryz.prog .len #[23] [s20_4]) fun t188 =>
 Do (aBin Tryz.prog .lss 3 s33 t188) fun t189 =>
 aCond t189
 (Do (aIndexAddr .slice 1 s24_3 s33) fun t194 =>
 Do (loadF false 1 t194) fun t195 =>
 Do (aIndexAddr .slice 1 s20_4 s33) fun t199 =>
 Do (loadF false 1 t199) fun t200 =>
 Do (aIndexAddr .slice 1 s18_4 t200) fun t201 =>
 Do (loadF false 1 t201) fun t202 =>
 Do (aPureC Tryz.prog 24 [t195, t202]) fun t203 =>
 aCond t203
 (Do (aBin Tryz.prog .add 3 s33 (.val (.int .i64 1))) fun t191 =>
 go_3 [s0_4, s16_4, s18_4, s20_4, s24_3, t191] σ_14)
 (Do (loadA true 1 s16_4 σ_14) fun t206 =>
 Do (aIndexAddr .slice 1 s20_4 s33) fun t210 =>
 Do (loadF false 1 t210) fun t211 =>
 Do (aIndexAddr .slice 1 s18_4 t211) fun t212 =>
 Do (loadF false 1 t212) fun t213 =>
 Do (aPureC Tryz.prog 29 [t213]) fun t214 =>
 Do (aIndexAddr .slice 1 s24_3 s33) fun t217 =>
 Do (loadF false 1 t217) fun t218 =>
 Do (aPureC Tryz.prog 29 [t218]) fun t219 =>
 Do (aPureC Tryz.prog 28 [t206, t214, t219]) fun t220 =>
 Do (aExt t220 0) fun t221 =>
 Do (aExt t220 1) fun t222 =>
 Do (aExt t220 2) fun t223 =>
 Do (aPureC Tryz.prog 30 [s0_4, t221, t222, t223]) fun t228 =>
 Do (aUn Tryz.prog .not t228) fun t229 =>
 aCond t229
 (Q (.ret (.val (.bool false))) σ_14)
 (Do (aBin Tryz.prog .add 3 s33 (.val (.int .i64 1))) fun t191_1 =>
 go_3 [s0_4, s16_4, s18_4, s20_4, s24_3, t191_1] σ_14)))
 (Q (.ret (.val (.bool true))) σ_14))
 [s0_3, s16_3, s18_3, s20_3, s24_2, (.val (.int .i64 0))] σ_5))))
 [s0, s3, s4, s5, s13, s16, s17, s18, s20, s22, (.val (.slice none 0 0)), (.val (.int .i64 0))] σ_2))
 [a0, a3, a4, a5, t13, t16, t46, t47, t52, t54, (.val (.int .i64 0))] σ_1)
theorem law17_MoveSound.eq (a0 a1 a2 a3 a4 a5 a6 : AV) (σ : Store) (Q : AEnd → Store → Prop) : vc (semOf Tryz.prog law17_MoveSound.mark) Tryz.f6.ntmps law17_MoveSound.ann (bodyOf Tryz.f6) (endK [.tmp 14] Q) (argFr [a0, a1, a2, a3, a4, a5, a6]) σ = law17_MoveSound.sh a0 a1 a2 a3 a4 a5 a6 σ Q := by kernel_rfl
theorem law17_MoveSound.go {a0 a1 a2 a3 a4 a5 a6 : AV} {σ : Store} {Q : AEnd → Store → Prop} (h : law17_MoveSound.sh a0 a1 a2 a3 a4 a5 a6 σ Q) : ACalls Tryz.prog 6 [a0, a1, a2, a3, a4, a5, a6] σ Q :=
 acalls_of_eq [.tmp 14] Tryz.func6 (by kernel_rfl) (by kernel_rfl) (by kernel_rfl) (by kernel_rfl) (law17_MoveSound.eq a0 a1 a2 a3 a4 a5 a6 σ Q) h
theorem MoveSound_at (b : Int) (news : List (List En)) (m : SM) (merges : List Int) (m' : SM) (rows0 : List (List En)) (m1 : SM) (ow : Bool) (at_ : Int) (e0 : En) (hn : news.length ≤ 9223372036854775807) (hm : merges.length ≤ 9223372036854775807) (hnl : ∀ r ∈ news, r.length ≤ 9223372036854775807)
  (hr0 : rows0.length ≤ 9223372036854775807) (hr1 : ∀ r ∈ rows0, r.length ≤ 9223372036854775807) :
  aPure Tryz.prog 6 [I .i64 b, .lst 1 (news.map enL) m, .lst 1 (merges.map it) m', .lst 1 (rows0.map enL) m1, B ow, I .i64 at_, e0.av] (B true) := by
 refine ACalls.fin (law17_MoveSound.go ?_)
 unfold law17_MoveSound.sh
 have hs := store_all b news merges (min news.length 14) (by omega)
 have htt : (true : Bool) = true := rfl
 have hff : ¬ (false : Bool) = true := by decide
 have iS : ∀ {a c : AV} {m m' : SM} [h1 : IsL a enL 1 news m] [h2 : IsL c it 1 merges m'], PC Tryz.prog 8 [trA b, a, c] True
  (.tuple [.lst 36 ((storeT b news merges (min news.length 14)).1.map tbF) .ro, .lst 1 ((storeT b news merges (min news.length 14)).2.map enL) .ro, B true]) := by
  intro a c m m' h1 h2
  exact ⟨fun _ => ⟨[trA b, .lst 1 (news.map enL) m, .lst 1 (merges.map it) m'], ⟨SubV.refl _, h1.sub, h2.sub, trivial⟩, store_ok b news merges m m' hn hm hnl⟩⟩
 generalize storeT b news merges (min news.length 14) = s at *
 obtain ⟨x, y⟩ := s
 dsimp only at hs iS
 have hI := Inputs_ok x .ro (by omega)
 obtain ⟨J, to, is, he, hJ, hJl, hJ2⟩ := inputs_two hs.1.right
 rw [he] at hI
 have iI : PC Tryz.prog 9 [.lst 36 (x.map tbF) .ro] True _ := ⟨fun _ => PC.of hI⟩
 have hyl := hs.1.tells.len
 have hyf := tells_len hs.1.tells
 have hyb : ∀ j, j < J.length → (y.getD (J.getD j default) default).length ≤ 64 ∧ 0 < (y.getD (J.getD j default) default).length := fun j hj => by
  have := fit_right (hyf (y.getD (J.getD j default) default) (getD_memT (by have := hJ j hj; omega)))
  exact ⟨this.1, this.2.1⟩
 repeat' (with_reducible first|apply Stp.go|refine imp fun _=>?_|refine zq ?_|refine zt ?_|refine zf ?_|refine zg ?_|refine za ?_|refine altF ?_|refine all fun _=>?_|refine both ?_ ?_|refine zu ?_|refine zv ?_|refine cho (fun _=>?_) fun _=>?_|refine zw ?_)
 rename_i bt
 refine loopI (β := Nat) (fun i => i ≤ J.length) (fun i => [I .i64 b, .lst 1 (rows0.map enL) m1, B ow, I .i64 at_, .rptr e0.cs, ptrAt bt 0, .lst 36 (x.map tbF) .ro, .lst 1 (y.map enL) .ro, .lst 1 (J.map itN) .ro, B is, I .i64 (i : Nat)])
  (fun _ => [.var bt 27 [it b]]) (fun i => J.length - i) 0 (Nat.zero_le _) (Sub.refl _ _) ?_
 intro i hi
 dsimp only at hi ⊢
 by_cases hij : i < J.length
 ·have h1 := hJ i hij
  have h2 := hyb i hij
  have h3 : ¬ J.getD i default < 0 := Nat.not_lt_zero _
  have h4 : ¬ y.length ≤ J.getD i default := by omega
  have h5 : ¬ (y.getD (J.getD i default) default).length = 0 := by omega
  repeat' (with_reducible first|apply Stp.go|refine imp fun _=>?_|refine zq ?_|refine zt ?_|refine zf ?_|refine zg ?_|refine za ?_|refine altF ?_|refine all fun _=>?_|refine both ?_ ?_|refine zu ?_|refine zv ?_|refine cho (fun _=>?_) fun _=>?_|refine zw ?_)
  exact again (i + 1) (by omega) (by omega) (Sub.refl _ _)
 have hcl : ∀ r : List En, ((r.take 20).map (cutE 130 200)).length ≤ 20 := fun r => by rw [List.length_map, List.length_take]; omega
 repeat' (with_reducible first|apply Stp.go|refine imp fun _=>?_|refine zq ?_|refine zt ?_|refine zf ?_|refine zg ?_|refine za ?_|refine altF ?_|refine all fun _=>?_|refine both ?_ ?_|refine zu ?_|refine zv ?_|refine cho (fun _=>?_) fun _=>?_|refine zw ?_)
 clear hij hi
 refine loopI (β := Nat × Value) (fun q => q.1 ≤ rows0.length ∧ q.1 ≤ 8)
  (fun q => [I .i64 b, .lst 1 (rows0.map enL) m1, B ow, I .i64 at_, .rptr e0.cs, ptrAt bt 0, .lst 36 (x.map tbF) .ro, .lst 1 (y.map enL) .ro, .lst 1 (J.map itN) .ro, B is, .own q.2 ((rows0.take q.1).map fun r => (r.take 20).map (cutE 130 200)).length, I .i64 (q.1 : Nat)])
  (fun q => [.row q.2 EsT 1 (((rows0.take q.1).map fun r => (r.take 20).map (cutE 130 200)).map enL) 0, .var bt 27 [it b]]) (fun q => 8 - q.1) (0, .slice none 0 0) ⟨Nat.zero_le _, Nat.zero_le _⟩
  (Sub.nil_own EsT (sz := 1) (by decide) _ [_, _, _, _, _, _, _, _, _, _] [_]) ?_
 rintro ⟨i, v⟩ ⟨p1, p2⟩
 dsimp only at p1 p2 ⊢
 have hcn : ((rows0.take i).map fun r => (r.take 20).map (cutE 130 200)).length = i := by rw [List.length_map, List.length_take]; omega
 by_cases hi : i < rows0.length ∧ i < 8
 ·obtain ⟨hi1, hi2⟩ := hi
  have htk := congrArg (List.map fun r => (r.take 20).map (cutE 130 200)) (take_succ_d hi1)
  rw [List.map_append] at htk
  have hrl := hr1 _ (getD_memT hi1)
  repeat' (with_reducible first|apply Stp.go|refine imp fun _=>?_|refine zq ?_|refine zt ?_|refine zf ?_|refine zg ?_|refine za ?_|refine altF ?_|refine all fun _=>?_|refine both ?_ ?_|refine zu ?_|refine zv ?_|refine cho (fun _=>?_) fun _=>?_|refine zw ?_)
  rename_i w
  exact again (i + 1, w) (by dsimp only; omega) ⟨by dsimp only; omega, by dsimp only; omega⟩ (by dsimp only; rw [htk]; exact Sub.refl _ _)
 ·have hcut : ∀ r ∈ (rows0.take i).map (fun r => (r.take 20).map (cutE 130 200)), r.length ≤ 64 := fun r hr => by
   obtain ⟨r', _, rfl⟩ := List.mem_map.1 hr
   have := hcl r'
   omega
  have hcut2 : ((rows0.take i).map fun r => (r.take 20).map (cutE 130 200)).length ≤ 20 := by omega
  generalize (rows0.take i).map (fun r => (r.take 20).map (cutE 130 200)) = C at *
  have hcase : (i < rows0.length ∧ ¬ i < 8) ∨ ¬ i < rows0.length := by omega
  rcases hcase with ⟨hi1, hi2⟩ | hi1
  all_goals
   repeat' (with_reducible first|apply Stp.go|refine imp fun _=>?_|refine zq ?_|refine zt ?_|refine zf ?_|refine zg ?_|refine za ?_|refine altF ?_|refine all fun _=>?_|refine both ?_ ?_|refine zu ?_|refine zv ?_|refine cho (fun _=>?_) fun _=>?_|refine zw ?_)
   refine joinI (β := List (List En)) (fun c => c.length ≤ 20 ∧ ∀ r ∈ c, r.length ≤ 64) (fun c => [I .i64 b, ptrAt bt 0, .lst 36 (x.map tbF) .ro, .lst 1 (y.map enL) .ro, .lst 1 (J.map itN) .ro, B is, .lst 1 (c.map enL) .ro])
    (fun _ => [.var bt 27 [it b]]) ?_ ?_
   ·cases ow with
    | false =>
     repeat' (with_reducible first|apply Stp.go|refine imp fun _=>?_|refine zq ?_|refine zt ?_|refine zf ?_|refine zg ?_|refine za ?_|refine altF ?_|refine all fun _=>?_|refine both ?_ ?_|refine zu ?_|refine zv ?_|refine cho (fun _=>?_) fun _=>?_|refine zw ?_)
     exact meet C ⟨hcut2, hcut⟩ (Sub.cons_same _ (Sub.cons_same _ (Sub.cons_same _ (Sub.cons_same _ (Sub.cons_same _ (Sub.cons_same _ (Sub.cons_own (σ1 := []) (Sub.refl _ _))))))))
    | true =>
     repeat' (with_reducible first|apply Stp.go|refine imp fun _=>?_|refine zq ?_|refine zt ?_|refine zf ?_|refine zg ?_|refine za ?_|refine altF ?_|refine all fun _=>?_|refine both ?_ ?_|refine zu ?_|refine zv ?_|refine cho (fun _=>?_) fun _=>?_|refine zw ?_)
     refine loopI (β := Nat × Value × List (Value × List En)) (fun q => q.1 ≤ J.length ∧ q.2.2.length = q.1 ∧ ∀ z ∈ q.2.2, z.2.length ≤ 64 ∧ 0 < z.2.length)
      (fun q => [I .i64 b, I .i64 at_, .rptr e0.cs, ptrAt bt 0, .lst 36 (x.map tbF) .ro, .lst 1 (y.map enL) .ro, .lst 1 (J.map itN) .ro, B is, .own q.2.1 q.2.2.length, I .i64 (q.1 : Nat)])
      (fun q => .row q.2.1 EsT 1 (q.2.2.map ownF) 0 :: .var bt 27 [it b] :: q.2.2.map (rowE 50)) (fun q => J.length - q.1) (0, .slice none 0 0, []) ⟨Nat.zero_le _, rfl, fun z hz => by cases hz⟩ ?_ ?_
     ·refine (Sub.drop_ (List.sublist_cons_self _ _) _).trans (Sub.nil_own EsT (sz := 1) (by decide) _ [_, _, _, _, _, _, _, _] [_])
     rintro ⟨j, w, zs⟩ ⟨q1, q2, q3⟩
     dsimp only at q1 q2 q3 ⊢
     by_cases hj : j < J.length
     ·have hx := hJ j hj
      have hg := hyb j hj
      have hzl : zs.length ≤ 1000 := by omega
      repeat' (with_reducible first|apply Stp.go|refine imp fun _=>?_|refine zq ?_|refine zt ?_|refine zf ?_|refine zg ?_|refine za ?_|refine altF ?_|refine all fun _=>?_|refine both ?_ ?_|refine zu ?_|refine zv ?_|refine cho (fun _=>?_) fun _=>?_|refine zw ?_)
      rename_i v0 v1 w1
      refine again (j + 1, w1, zs ++ [(v1, [] ++ y.getD (J.getD j default) default)]) (by dsimp only; omega) ⟨by dsimp only; omega, by dsimp only; rw [List.length_append, q2]; rfl, fun z hz => ?_⟩ ?_
      ·rcases List.mem_append.1 hz with hz | hz
       ·exact q3 z hz
       ·rw [List.mem_singleton.1 hz]; exact hg
      ·dsimp only
       rw [List.map_append (f := rowE _)]
       exact Sub.perm (List.perm_append_comm (l₁ := [_]) (l₂ := _ :: _ :: _)) _
     ·have hje : j = J.length := by omega
      subst hje
      have hfin : ∀ (zs' : List (Value × List En)) (w : Value) (us : List AV), Sub (.row w EsT 1 (zs'.map ownF) 0 :: .var bt 27 [it b] :: zs'.map (rowE 50)) us (.row w EsT 1 ((zs'.map Prod.snd).map enL) 0 :: [.var bt 27 [it b]]) us := fun zs' w us => by
       have := Sub.rows w 50 EsT 0 [.var bt 27 [it b]] us zs' []
       rw [List.map_map]
       exact (Sub.perm (List.Perm.cons _ (List.perm_append_comm (l₁ := [_]) (l₂ := zs'.map (rowE 50)))) _).trans this
      have hfc : ∀ (zs' : List (Value × List En)) (w : Value) (n : Nat) (us : List AV), Sub (.row w EsT 1 (zs'.map ownF) 0 :: .var bt 27 [it b] :: zs'.map (rowE 50)) (us ++ [.own w n]) [.var bt 27 [it b]] (us ++ [.lst 1 ((zs'.map Prod.snd).map enL) .ro]) := fun zs' w n us => (hfin zs' w _).trans (by
       induction us with
       | nil => exact Sub.cons_own (σ1 := []) (Sub.refl _ _)
       | cons u us ih => exact Sub.cons_same _ ih)
      by_cases h0 : zs.length = 0
      ·repeat' (with_reducible first|apply Stp.go|refine imp fun _=>?_|refine zq ?_|refine zt ?_|refine zf ?_|refine zg ?_|refine za ?_|refine altF ?_|refine all fun _=>?_|refine both ?_ ?_|refine zu ?_|refine zv ?_|refine cho (fun _=>?_) fun _=>?_|refine zw ?_)
       exact meet (zs.map Prod.snd) ⟨by rw [List.length_map]; omega, fun r hr => by
        obtain ⟨z, hz, rfl⟩ := List.mem_map.1 hr
        exact (q3 z hz).1⟩ (hfc zs w _ [_, _, _, _, _, _])
      ·have hk : (at_ % 256).toNat % zs.length < zs.length := Nat.mod_lt _ (by omega)
       obtain ⟨z1, ⟨v1, L⟩, z2, hz, hzk⟩ : ∃ z1 z z2, zs = z1 ++ z :: z2 ∧ zs.getD ((at_ % 256).toNat % zs.length) default = z := ⟨_, _, _, split_at_d hk, rfl⟩
       have hL := q3 (v1, L) (by rw [hz]; simp)
       dsimp only at hL
       have hzo : ownF (zs.getD ((at_ % 256).toNat % zs.length) default) = .own v1 L.length := by rw [hzk]; rfl
       have hrow : zs.map (rowE 50) = z1.map (rowE 50) ++ .row v1 50 4 (L.map En.av) 0 :: z2.map (rowE 50) := by
        rw [hz, List.map_append]; rfl
       have hnk : (at_.fdiv (2 ^ min 8 64) % 256).toNat % L.length < L.length := Nat.mod_lt _ hL.2
       have hL0 := hL.2
       generalize hA : z1.map (rowE 50) = A at hrow
       generalize hB : z2.map (rowE 50) = B at hrow
       rw [hrow]
       repeat' (with_reducible first|apply Stp.go|refine imp fun _=>?_|refine zq ?_|refine zt ?_|refine zf ?_|refine zg ?_|refine za ?_|refine altF ?_|refine all fun _=>?_|refine both ?_ ?_|refine zu ?_|refine zv ?_|refine cho (fun _=>?_) fun _=>?_|refine zw ?_)
       rw [hzo]
       repeat' (with_reducible first|apply Stp.go|refine imp fun _=>?_|refine zq ?_|refine zt ?_|refine zf ?_|refine zg ?_|refine za ?_|refine altF ?_|refine all fun _=>?_|refine both ?_ ?_|refine zu ?_|refine zv ?_|refine cho (fun _=>?_) fun _=>?_|refine zw ?_)
       rw [hzo]
       repeat' (with_reducible first|apply Stp.go|refine imp fun _=>?_|refine zq ?_|refine zt ?_|refine zf ?_|refine zg ?_|refine za ?_|refine altF ?_|refine all fun _=>?_|refine both ?_ ?_|refine zu ?_|refine zv ?_|refine cho (fun _=>?_) fun _=>?_|refine zw ?_)
       rw [hzo]
       repeat' (with_reducible first|apply Stp.go|refine imp fun _=>?_|refine zq ?_|refine zt ?_|refine zf ?_|refine zg ?_|refine za ?_|refine altF ?_|refine all fun _=>?_|refine both ?_ ?_|refine zu ?_|refine zv ?_|refine cho (fun _=>?_) fun _=>?_|refine zw ?_)
       have hmt : ∀ L' : List En, L'.length = L.length → ∀ us : List AV, Sub (.row w EsT 1 (zs.map ownF) 0 :: .var bt 27 [it b] :: (A ++ .row v1 50 4 (L'.map En.av) 0 :: B)) (us ++ [.own w zs.length]) [.var bt 27 [it b]] (us ++ [.lst 1 (((z1 ++ (v1, L') :: z2).map Prod.snd).map enL) .ro]) := fun L' h us => by
        have g1 : zs.map ownF = (z1 ++ (v1, L') :: z2).map ownF := by
         rw [hz, List.map_append, List.map_append, List.map_cons, List.map_cons]
         have : ownF (v1, L) = ownF (v1, L') := by unfold ownF; rw [h]
         rw [this]
        have g2 : A ++ .row v1 50 4 (L'.map En.av) 0 :: B = (z1 ++ (v1, L') :: z2).map (rowE 50) := by
         rw [← hA, ← hB, List.map_append]; rfl
        rw [g1, g2]
        exact hfc _ w _ us
       refine meet _ ?_ ((Sub.drop_ (List.sublist_cons_self _ _) _).trans (hmt _ List.length_set [_, _, _, _, _, _]))
       have hzl : (z1 ++ (v1, L) :: z2).length = zs.length := by rw [hz]
       refine ⟨?_, fun r hr => ?_⟩
       ·rw [List.length_map, List.length_append, List.length_cons]
        rw [List.length_append, List.length_cons] at hzl
        omega
       ·obtain ⟨z, hzm, rfl⟩ := List.mem_map.1 hr
        rcases List.mem_append.1 hzm with hzm | hzm
        ·exact (q3 z (by rw [hz]; exact List.mem_append_left _ hzm)).1
        ·rcases List.mem_cons.1 hzm with rfl | hzm
         ·dsimp only
          rw [List.length_set]; exact hL.1
         ·exact (q3 z (by rw [hz]; exact List.mem_append_right _ (List.mem_cons_of_mem _ hzm))).1
   ·rintro c ⟨hc1, hc2⟩
    have hc3 : ∀ r ∈ c, r.length ≤ 1000000 := fun r hr => by have := hc2 r hr; omega
    have n1 : x.length ≤ 1000000 ∧ c.length ≤ 1000000 ∧ ∀ r ∈ c, r.length ≤ 1000000 := ⟨by omega, by omega, hc3⟩
    by_cases hz : (compactT b x c).2 = 0
    ·obtain ⟨k1, k2⟩ := compact_zero hz
     obtain ⟨hJe, rfl⟩ := hJ2 k1
     rw [← hJe] at k2
     have hcl : c.length = J.length := k2.1
     repeat' (with_reducible first|apply Stp.go|refine imp fun _=>?_|refine zq ?_|refine zt ?_|refine zf ?_|refine zg ?_|refine za ?_|refine altF ?_|refine all fun _=>?_|refine both ?_ ?_|refine zu ?_|refine zv ?_|refine cho (fun _=>?_) fun _=>?_|refine zw ?_)
     refine loopI (β := Nat) (fun i => i ≤ J.length) (fun i => [I .i64 b, ptrAt bt 0, .lst 1 (y.map enL) .ro, .lst 1 (J.map itN) .ro, .lst 1 (c.map enL) .ro, I .i64 (i : Nat)])
      (fun _ => [.var bt 27 [it b]]) (fun i => J.length - i) 0 (Nat.zero_le _) (Sub.refl _ _) ?_
     intro i hi
     by_cases hij : i < J.length
     ·have o1 := hs.1.tells.at_ _ (hJ i hij)
      have o2 := k2.2 i hij
      have h1 := hJ i hij
      have h2 := hyb i hij
      have h3 : (c.getD i default).length ≤ 64 := hc2 _ (getD_memT (by omega))
      have o3 := fun h => ok_clash (b := b) o1 o2 h
      have en : ∀ (l : List En), ∀ b ∈ l.map enB, b.length ≤ 10000000000000 := fun l b h => by
       obtain ⟨e, _, rfl⟩ := List.mem_map.1 h
       have := enB_length e
       omega
      by_cases hcr : c.getD i default = y.getD (J.getD i default) default
      ·repeat' (with_reducible first|apply Stp.go|refine imp fun _=>?_|refine zq ?_|refine zt ?_|refine zf ?_|refine zg ?_|refine za ?_|refine altF ?_|refine all fun _=>?_|refine both ?_ ?_|refine zu ?_|refine zv ?_|refine cho (fun _=>?_) fun _=>?_|refine zw ?_)
       exact again (i + 1) (by omega) (by omega) (Sub.refl _ _)
      ·have o4 := o3 hcr
       have n2 : ((y.getD (J.getD i default) default).map enB).length ≤ 1000000 ∧ (∀ b ∈ (y.getD (J.getD i default) default).map enB, b.length ≤ 10000000000000) ∧ ((c.getD i default).map enB).length ≤ 1000000 ∧ ∀ b ∈ (c.getD i default).map enB, b.length ≤ 10000000000000 := ⟨by rw [List.length_map]; omega, en _, by rw [List.length_map]; omega, en _⟩
       have n3 := listsP_len b ((y.getD (J.getD i default) default).map enB) ((c.getD i default).map enB) (en _) (en _)
       rw [← twoP_is] at o4
       repeat' (with_reducible first|apply Stp.go|refine imp fun _=>?_|refine zq ?_|refine zt ?_|refine zf ?_|refine zg ?_|refine za ?_|refine altF ?_|refine all fun _=>?_|refine both ?_ ?_|refine zu ?_|refine zv ?_|refine cho (fun _=>?_) fun _=>?_|refine zw ?_)
       exact again (i + 1) (by omega) (by omega) (Sub.refl _ _)
     ·repeat' (with_reducible first|apply Stp.go|refine imp fun _=>?_|refine zq ?_|refine zt ?_|refine zf ?_|refine zg ?_|refine za ?_|refine altF ?_|refine all fun _=>?_|refine both ?_ ?_|refine zu ?_|refine zv ?_|refine cho (fun _=>?_) fun _=>?_|refine zw ?_)
      exact ⟨_, _, _, rfl, Sub.app_nil _, rfl, rfl⟩
    ·repeat' (with_reducible first|apply Stp.go|refine imp fun _=>?_|refine zq ?_|refine zt ?_|refine zf ?_|refine zg ?_|refine za ?_|refine altF ?_|refine all fun _=>?_|refine both ?_ ?_|refine zu ?_|refine zv ?_|refine cho (fun _=>?_) fun _=>?_|refine zw ?_)
     exact ⟨_, _, _, rfl, Sub.app_nil _, rfl, rfl⟩
theorem MoveSound_ok (b : Int) (news : List (List En)) (m : SM) (merges : List Int) (m' : SM) (rows0 : List (List En)) (m1 : SM) (ow : Bool) (at_ : Int) (e0 : En) (hb : (Lit.int .i64 b).wf = true) (hn : (∀ a ∈ news, (∀ e ∈ a, e.key.length ≤ maxLen ∧ e.val.length ≤ maxLen) ∧ a.length ≤ maxLen) ∧ news.length ≤ maxLen) (hm : (∀ n ∈ merges, (Lit.int .i64 n).wf = true) ∧ merges.length ≤ maxLen)
  (hr : (∀ a ∈ rows0, (∀ e ∈ a, e.key.length ≤ maxLen ∧ e.val.length ≤ maxLen) ∧ a.length ≤ maxLen) ∧ rows0.length ≤ maxLen) (ha : (Lit.int .i64 at_).wf = true) {p q : Prop} (hk : p) (hx : q) :
  aPure Tryz.prog 6 [I .i64 b, .lst 1 (news.map enL) m, .lst 1 (merges.map it) m', .lst 1 (rows0.map enL) m1, B ow, I .i64 at_, e0.av] (B true) :=
 MoveSound_at b news m merges m' rows0 m1 ow at_ e0 (by have := hn.2; simpa [maxLen] using this) (by have := hm.2; simpa [maxLen] using this) (fun r hr => by have := (hn.1 r hr).2; simpa [maxLen] using this) (by have := hr.2; simpa [maxLen] using this) (fun r h => by have := (hr.1 r h).2; simpa [maxLen] using this)
end Go.Ab
