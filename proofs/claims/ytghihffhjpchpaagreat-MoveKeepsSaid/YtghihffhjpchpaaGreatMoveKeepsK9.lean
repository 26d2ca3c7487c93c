/- The texts that this claim needs, part 9: a logic over abstract values, its steps, what the functions do. No condition of its own. -/
import Derived.Shelf.SlSortCmp.NoneTotal
import Derived.Test.YtghihffhjpchpaaGreatMoveKeepsK8
/- slices.SortFunc at entries: from the kit's contract to a call told of abstract states. -/
set_option linter.unusedVariables false
set_option linter.unusedSimpArgs false
namespace Go.Ab
open Go.Proofs Go.Shelf Go.RowKit Go.Lib Go.Sort
theorem isNaN_walk (x : ByteArray) (W : World) : Calls Go.Proofs.Tryz.prog 139 #[.string x] W fun e w' => e = .returned (.bool false) ∧ w' = W := by
  go_enter Go.Proofs.Tryz.func139, Go.Proofs.Tryz.ntmps139
  go_wp2
  go_ret
  exact ⟨rfl, rfl⟩
set_option maxHeartbeats 1000000 in
theorem compare_walk (a b : List UInt8) (W : World) : Calls Go.Proofs.Tryz.prog 114 #[.string ⟨a.toArray⟩, .string ⟨b.toArray⟩] W fun e w' => e = .returned (.int .i64 (cmpK a b)) ∧ w' = W := by
  have h86 := isNaN_walk
  have hg : ∀ w, (binOp .gtr 9 (.string ⟨a.toArray⟩) (.string ⟨b.toArray⟩)).run Go.Proofs.Tryz.prog w = .ok (.bool (!(Op.bytesLess a b || decide (a = b)))) w := fun w => by simp [binOp, Op.stringOp, bdec]
  have hl : Op.bytesLess (⟨a.toArray⟩ : ByteArray).toList (⟨b.toArray⟩ : ByteArray).toList = Op.bytesLess a b := by simp
  go_enter Go.Proofs.Tryz.func114, Go.Proofs.Tryz.ntmps114
  go_wp2_with (go_at_call 139; refine (h86 _ _).mono ?_; rintro e w' ⟨rfl, rfl⟩)
  all_goals go_ret
  all_goals refine ⟨?_, rfl⟩
  all_goals simp_all [cmpK, lt]
/-- An entry's cells. -/
def enc (e : En) : List Value := [.string ⟨e.key.toArray⟩, .string ⟨e.val.toArray⟩, .bool e.del, .int .i64 e.seq]
theorem byKey_walk (x y : En) (W : World) : Calls Go.Proofs.Tryz.prog 80 #[.agg (enc x).toArray, .agg (enc y).toArray] W fun e w' => e = .returned (.int .i64 (cmpK x.key y.key)) ∧ ∃ q os', w' = grow (W.drewN q) os' := by
  have hcon := fun W' => compare_walk x.key y.key W'
  simp only [enc]
  generalize cmpK x.key y.key = r at hcon ⊢
  go_enter Go.Proofs.Tryz.func80, Go.Proofs.Tryz.ntmps80
  go_wp2_with (go_at_call 114; refine (hcon _).mono ?_; rintro e w' ⟨rfl, rfl⟩)
  go_ret
  exact ⟨rfl, 0, _, by rw [alloc_eq_grow, alloc_eq_grow, grow_grow]; rfl⟩
theorem ltOf_key (x y : En) : ltOf (fun x y : En => cmpK x.key y.key) x y = lt x.key y.key := by
  unfold ltOf
  cases h : lt x.key y.key with
  | true => simp [cmpK, h]
  | false => have := (cmpK_neg x.key y.key).2 h; simp; omega
theorem swo_key : SWO (ltOf fun x y : En => cmpK x.key y.key) where
  irrefl x := by rw [ltOf_key, lt_irrefl]
  trans x y z h1 h2 := by rw [ltOf_key] at *; exact lt_trans' h1 h2
  ntrans x y z h1 h2 := by
    rw [ltOf_key] at *
    cases h : lt x.key z.key with
    | false => rfl
    | true => rw [lt_of_ge h1 h] at h2; cases h2
theorem flat_enc (l : List En) : flat (l.map En.av) = (l.flatMap enc).map .val := by
  induction l with
  | nil => rfl
  | cons e l ih =>
    simp only [List.map_cons, List.flatMap_cons, List.map_append, ← ih]
    rfl
theorem flatK_enc (d : Array En) : (flatK enc 4 d).toList = d.toList.flatMap enc := by
  obtain ⟨l, rfl⟩ : ∃ l, d = List.toArray l := ⟨d.toList, by simp⟩
  have hf : ∀ l : List En, (l.flatMap enc).length = l.length * 4 := fun l => by
    induction l with
    | nil => rfl
    | cons e l ih => simp only [List.flatMap_cons, List.length_append, ih, List.length_cons, enc, List.length_nil]; omega
  have hg : ∀ (l : List En) (t : Nat), t < l.length * 4 → (l.flatMap enc)[t]? = some ((enc (l.getD (t / 4) default))[t % 4]!) := by
    intro l
    induction l with
    | nil => intro t ht; simp at ht
    | cons e l ih =>
      intro t ht
      rcases Nat.lt_or_ge t 4 with h4 | h4
      · rw [List.flatMap_cons, List.getElem?_append_left (by simpa [enc] using h4)]
        have e1 : t / 4 = 0 := by omega
        have e2 : t % 4 = t := by omega
        rw [e1, e2, List.getD_cons_zero, List.getElem!_eq_getElem?_getD, List.getElem?_eq_getElem (by simpa [enc] using h4)]
        rfl
      · rw [List.flatMap_cons, List.getElem?_append_right (by simpa [enc] using h4)]
        have e3 : (enc e).length = 4 := rfl
        obtain ⟨u, rfl⟩ : ∃ u, t = u + 4 := ⟨t - 4, by omega⟩
        have e1 : (u + 4) / 4 = u / 4 + 1 := by omega
        have e2 : (u + 4) % 4 = u % 4 := by omega
        rw [e3, Nat.add_sub_cancel, e1, e2, List.getD_cons_succ]
        exact ih u (by simp at ht; omega)
  apply List.ext_getElem?
  intro t
  rcases Nat.lt_or_ge t (l.length * 4) with h | h
  · rw [show (List.toArray l).toList = l from rfl, hg l t h]
    have hs : t < (flatK enc 4 l.toArray).size := by simpa using h
    have := get_flatK enc 4 l.toArray t (by simpa using h)
    rw [getElem!_pos _ t hs] at this
    rw [Array.getElem?_toList, Array.getElem?_eq_getElem hs, this]
    simp [List.getD_eq_getElem?_getD, Array.getElem!_eq_getD, Array.getD]
    by_cases h4 : t / 4 < l.length <;> simp [h4]
  · rw [List.getElem?_eq_none (by simpa using h), List.getElem?_eq_none (by rw [hf]; exact h)]
theorem flatMap_enc_length : ∀ l : List En, (l.flatMap enc).length = l.length * 4
  | [] => rfl
  | e :: l => by simp only [List.flatMap_cons, List.length_append, flatMap_enc_length l, List.length_cons, enc, List.length_nil]; omega
theorem enc_one (l : List En) : ∀ v ∈ l.flatMap enc, v.oneCell' = true := by
  intro v hv
  obtain ⟨e, _, h⟩ := List.mem_flatMap.1 hv
  simp only [enc, List.mem_cons, List.not_mem_nil, or_false] at h
  rcases h with rfl | rfl | rfl | rfl <;> rfl
theorem grown_grow (w : World) (os : Array Obj) : w.grownBy (grow w os) none := ⟨rfl, rfl, rfl, by simp, fun k hk _ => heap_grow_old w os hk⟩
theorem body_sort : HasBody Go.Proofs.Tryz.prog 51 := ⟨Go.Proofs.Tryz.f51, _, by kernel_rfl, rfl, by kernel_rfl⟩
theorem sort_of (cf : FuncId) (eg : ∀ args w, (callFunc cf args).run Go.Proofs.Tryz.prog w = .ok (.enter cf args) w) (hcf : ∀ (x y : En) (W : World), Calls Go.Proofs.Tryz.prog cf #[.agg (enc x).toArray, .agg (enc y).toArray] W fun e w' => e = .returned (.int .i64 (cmpK x.key y.key)) ∧ ∃ q os', w' = grow (W.drewN q) os') (l : List En) (v : Value) (σ1 σ2 : Store) (hlen : l.length < 4611686018427387904) : ACalls Go.Proofs.Tryz.prog 51 [.own v l.length, .val (.func (.func cf) #[] #[])] (σ1 ++ .row v 50 4 (l.map En.av) 0 :: σ2)
    fun x σ' => ∃ l' : List En, (l'.Perm l ∧ l'.Pairwise fun a b => lt b.key a.key = false) ∧ x = .ret (.tuple []) ∧ σ' = σ1 ++ .row v 50 4 (l'.map En.av) 0 :: σ2 := by
  refine ⟨body_sort, fun R w vs hv hs => ?_⟩
  obtain ⟨hvl, hvr⟩ := hv
  match vs, hvl with
  | [x, y], _ =>
    have hx := (hvr 0 _ x rfl rfl).own_inv.1
    have hy := (hvr 1 _ y rfl rfl).val_inv
    subst hx; subst hy
    obtain ⟨h1, h2, ⟨xs, hown, hxs, hone⟩, hmx, hR⟩ := hs.ents (.row x 50 4 (l.map En.av) 0) (by simp)
    have hxs' : xs = l.flatMap enc := VRs.toVals (by rw [← flat_enc]; exact hxs)
    subst hxs'
    obtain ⟨hlx, hown⟩ := hown.plain (by decide)
    rw [List.length_map] at hlx hown
    rcases hown with ⟨rfl, h0⟩ | ⟨g, cap, cur, rfl, hg0, hg, hnc, hcap, hsz, hcur⟩
    · have hl0 : l = [] := List.length_eq_zero_iff.1 h0
      subst hl0
      refine (AnyF.slices_SortFunc_none Go.Proofs.Tryz.sortEn none 0 _ w).mono ?_
      rintro e w' ⟨rfl, rfl⟩
      exact ⟨.ret (.tuple []), R, _, VR.tuple' (VRs.nil R), ⟨[], ⟨List.Perm.refl _, List.Pairwise.nil⟩, rfl, rfl⟩, hs, Ext.refl _ _ _⟩
    · have hgl : g < w.heap.size := by
        rcases Nat.lt_or_ge g w.heap.size with h | h
        · exact h
        · rw [Array.getElem?_eq_none h] at hg; cases hg
      have hfk := flatK_enc l.toArray
      have hH : HoldsK enc 4 w g 0 l.toArray := by
        intro j hj
        have hj' : j < l.length * 4 := by simpa using hj
        have hc : cur.toList[j]? = (l.flatMap enc)[j]? := by
          rw [← hcur, List.getElem?_take, if_pos hj']
        have hc2 : cur[j]? = some ((flatK enc 4 l.toArray)[j]!) := by
          rw [← Array.getElem?_toList, hc, ← hfk, Array.getElem?_toList, getElem!_pos _ j hj, Array.getElem?_eq_getElem hj]
        exact ⟨by simp only [World.cell?, hg, Nat.zero_add]; simpa using hc2, by simp [World.frozen?, hg]⟩
      have hcon := AnyQ.slices_SortFunc Go.Proofs.Tryz.sortEn 4 Go.Proofs.Tryz.isAgg50 Go.Proofs.Tryz.sizeOf50 enc (fun _ => rfl) (fun e u hu => enc_one [e] u (by simpa using hu)) (fun x y => cmpK x.key y.key) swo_key cf #[] g 0 cap l.toArray w eg (fun _ _ _ _ x y => hcf x y _) hH hgl (by simpa using hlen)
      refine hcon.mono ?_
      rintro e w' ⟨rfl, d', n, os, hp, hso, rfl⟩
      obtain ⟨hds, _, hpm⟩ := hp
      have hds : d'.size = l.length := by simpa using hds
      have hperm : d'.toList.Perm l := by
        have h3 := hpm
        simp only [List.size_toArray, ← hds, Array.extract_size] at h3
        rw [hds, show l.length = l.toArray.size from rfl, Array.extract_size] at h3
        exact h3
      have hpw : d'.toList.Pairwise fun a b => lt b.key a.key = false := by
        rw [List.pairwise_iff_getElem]
        intro i j hi hj hij
        have := hso i j (Nat.zero_le _) hij (by simpa [← hds] using hj)
        rw [ltOf_key, getElem!_pos d' j (by simpa using hj), getElem!_pos d' i (by simpa using hi)] at this
        simpa using this
      obtain ⟨cur', hcur'⟩ : ∃ c, c = putCells id 0 (flatK enc 4 d') cur := ⟨_, rfl⟩
      have hmod : ∀ k, (putRowK enc 4 (Go.Sort.ahead w n) g 0 d').heap[k]? = if k = g then some (.cells cur' 50 (0, 0)) else w.heap[k]? := by
        intro k
        show (w.heap.modify g _)[k]? = _
        rw [Array.getElem?_modify]
        by_cases hk : k = g
        · subst hk
          rw [if_pos rfl, if_pos rfl, hg, hcur']
          rfl
        · rw [if_neg (fun h => hk h.symm), if_neg hk]
      have htake : cur'.toList.take (l.length * 4) = d'.toList.flatMap enc := by
        rw [← flatK_enc, hcur']
        apply List.ext_getElem?
        intro t
        have hfs : (flatK enc 4 d').size = l.length * 4 := by simp [hds]
        have hcs : l.length * 4 ≤ cur.size := by rw [hsz]; exact Nat.mul_le_mul_right 4 hnc
        rcases Nat.lt_or_ge t (l.length * 4) with h | h
        · rw [List.getElem?_take, if_pos h, Array.getElem?_toList, Array.getElem?_toList]
          unfold putCells
          rw [Array.getElem?_mapIdx, Array.getElem?_eq_getElem (by omega : t < cur.size), Array.getElem?_eq_getElem (by omega : t < (flatK enc 4 d').size)]
          simp only [Option.map_some, Nat.zero_le, true_and, Nat.zero_add, Nat.sub_zero, id_eq]
          rw [if_pos (by omega), getElem!_pos _ t (by omega)]
        · rw [List.getElem?_eq_none (by simp; omega), List.getElem?_eq_none (by simp; omega)]
      have hcs' : cur'.size = cap * 4 := by rw [hcur']; simp [putCells, hsz]
      have hE : EntOk R (putRowK enc 4 (Go.Sort.ahead w n) g 0 d') (.row (.slice (some ⟨g, 0, none⟩) l.length cap) 50 4 (d'.toList.map En.av) 0) := by
        refine ⟨h1, fun e he => ?_, ⟨d'.toList.flatMap enc, rowM.of ⟨?_, .inr ⟨g, cap, cur', ?_, hg0, ?_, ?_, hcap, hcs', ?_⟩⟩, ?_, enc_one _⟩, ?_, fun a x ha hb => ?_⟩
        · obtain ⟨e0, _, rfl⟩ := List.mem_map.1 he
          rfl
        · rw [flatMap_enc_length]; simp
        · simp [hds]
        · rw [hmod, if_pos rfl]
        · simpa [hds] using hnc
        · simpa [hds] using htake
        · rw [flat_enc]; exact VRs.ofVals R _
        · simpa [hds] using hmx
        · have := hR a x ha hb
          omega
      have hst := st_change (b := g) (e' := .row (.slice (some ⟨g, 0, none⟩) l.length cap) 50 4 (d'.toList.map En.av) 0) hs rfl rfl (w' := putRowK enc 4 (Go.Sort.ahead w n) g 0 d') rfl rfl rfl (by show (w.heap.modify g _).size = _; simp) (fun k hk => by rw [hmod, if_neg hk]) (fun a x ha hb => by
        have := hR a x ha (by simp [Value.ownBlock, hb])
        omega) hE
      obtain ⟨q1, q2⟩ := hst
      obtain ⟨q3, q4⟩ := st_roNew q1 (grown_grow _ os)
      exact ⟨.ret (.tuple []), _, _, VR.tuple' (VRs.nil _), ⟨d'.toList, ⟨hperm, hpw⟩, rfl, rfl⟩, q3, q2.trans q4⟩
theorem sort_ok (l : List En) (v : Value) (σ1 σ2 : Store) (hlen : l.length < 4611686018427387904) : ACalls Go.Proofs.Tryz.prog 51 [.own v l.length, .val (.func (.func 80) #[] #[])] (σ1 ++ .row v 50 4 (l.map En.av) 0 :: σ2)
    fun x σ' => ∃ l' : List En, (l'.Perm l ∧ l'.Pairwise fun a b => lt b.key a.key = false) ∧ x = .ret (.tuple []) ∧ σ' = σ1 ++ .row v 50 4 (l'.map En.av) 0 :: σ2 :=
  sort_of _ (enters_of Go.Proofs.Tryz.func80 (by kernel_rfl) rfl) byKey_walk l v σ1 σ2 hlen
instance sortQ {l : List En} {v : Value} {n : Nat} {σ rest : Store} {put : Ent → Store} [hr : RowAt v σ 50 4 (l.map En.av) 0 put rest] :
    EQ Go.Proofs.Tryz.prog 51 [.own v n, .val (.func (.func 80) #[] #[])] σ (n = l.length ∧ l.length < 4611686018427387904) (List En) (fun l' => l'.Perm l ∧ l'.Pairwise fun a b => lt b.key a.key = false) (fun _ => .tuple []) (fun l' => put (.row v 50 4 (l'.map En.av) 0)) := ⟨fun ⟨h1, h2⟩ => by
  obtain ⟨σ1, σ2, e, e2, _⟩ := hr.at_
  subst h1; subst e
  simp only [e2]
  exact sort_ok l v σ1 σ2 h2⟩
end Go.Ab

/- Texts held against one another, walked; rows sorted by keys. -/
set_option linter.unusedVariables false
set_option linter.unusedSimpArgs false
namespace Go.Ab
open Go.Proofs Go.Shelf Go.RowKit Go.Lib Go.Sort
theorem cmpstring_run (a b : List UInt8) (w : World) : (callFunc 126 #[.string ⟨a.toArray⟩, .string ⟨b.toArray⟩]).run Go.Proofs.Tryz.prog w = .ok (.value (.int .i64 (cmpK a b))) w := by
  rw [run_callFunc_extern Go.Proofs.Tryz.func126 (by kernel_rfl) (by kernel_rfl) (by kernel_rfl) (e := Extern.BytealgCompare.compare) (by kernel_rfl)]
  rw [show (#[Value.string ⟨a.toArray⟩, Value.string ⟨b.toArray⟩]) = ([Value.string ⟨a.toArray⟩, Value.string ⟨b.toArray⟩] : List Value).toArray from rfl, Lib.run_compareString, compare_cmpK]
  rfl
theorem CompareString_walk (a b : List UInt8) (W : World) : Calls Go.Proofs.Tryz.prog 87 #[.string ⟨a.toArray⟩, .string ⟨b.toArray⟩] W fun e w' => e = .returned (.int .i64 (cmpK a b)) ∧ w' = W := by
  have hx := cmpstring_run a b
  go_enter Go.Proofs.Tryz.func87, Go.Proofs.Tryz.ntmps87
  go_wp2
  go_ret
  exact ⟨rfl, rfl⟩
theorem Compare_walk (a b : List UInt8) (W : World) : Calls Go.Proofs.Tryz.prog 53 #[.string ⟨a.toArray⟩, .string ⟨b.toArray⟩] W fun e w' => e = .returned (.int .i64 (cmpK a b)) ∧ w' = W := by
  have h86 := CompareString_walk a b
  go_enter Go.Proofs.Tryz.func53, Go.Proofs.Tryz.ntmps53
  go_wp2_with (go_at_call 87; refine (h86 _).mono ?_; rintro e w' ⟨rfl, rfl⟩)
  go_ret
  exact ⟨rfl, rfl⟩
theorem byKey2_walk (x y : En) (W : World) : Calls Go.Proofs.Tryz.prog 52 #[.agg (enc x).toArray, .agg (enc y).toArray] W fun e w' => e = .returned (.int .i64 (cmpK x.key y.key)) ∧ ∃ q os', w' = grow (W.drewN q) os' := by
  have hcon := fun W' => Compare_walk x.key y.key W'
  simp only [enc]
  generalize cmpK x.key y.key = r at hcon ⊢
  go_enter Go.Proofs.Tryz.func52, Go.Proofs.Tryz.ntmps52
  go_wp2_with (go_at_call 53; refine (hcon _).mono ?_; rintro e w' ⟨rfl, rfl⟩)
  go_ret
  exact ⟨rfl, 0, _, by rw [alloc_eq_grow, alloc_eq_grow, grow_grow]; rfl⟩
instance sortQ2 {l : List En} {v : Value} {n : Nat} {σ rest : Store} {put : Ent → Store} [hr : RowAt v σ 50 4 (l.map En.av) 0 put rest] :
    EQ Go.Proofs.Tryz.prog 51 [.own v n, .val (.func (.func 52) #[] #[])] σ (n = l.length ∧ l.length < 4611686018427387904) (List En) (fun l' => l'.Perm l ∧ l'.Pairwise fun a b => lt b.key a.key = false) (fun _ => .tuple []) (fun l' => put (.row v 50 4 (l'.map En.av) 0)) := ⟨fun ⟨h1, h2⟩ => by
  obtain ⟨σ1, σ2, e, e2, _⟩ := hr.at_
  subst h1; subst e
  simp only [e2]
  exact sort_of _ (enters_of Go.Proofs.Tryz.func52 (by kernel_rfl) rfl) byKey2_walk l v σ1 σ2 h2⟩
end Go.Ab

/- Steps (part 13): arrays, in variables and in memory that turns no more; slices of a variable; rotations. No program in sight. -/
set_option linter.unusedVariables false
set_option linter.unusedSimpArgs false
namespace Go.Ab
variable {P : Program}
def wrd (w : UInt32) : AV := .val (.int .u32 w.toNat)
instance (w : UInt32) : Cells (wrd w) [W32 w] := ⟨rfl⟩
instance (n : Int) (w : UInt32) [h : U32Of n w] : AsF wrd (.val (.int .u32 n)) w := ⟨by rw [h.eq]; rfl⟩
instance (n : Nat) (c : AV) [h : One c] : Ones (List.replicate n c) := ⟨fun x hx => by rw [(List.mem_replicate.1 hx).2]; exact h.one⟩
/-- Each is one cell. -/
class EncOne {α : Type} (f : α → AV) : Prop where
  cells : ∀ a, (f a).cells = [f a]
  one : ∀ a, (f a).one = true
instance : EncOne wrd := ⟨fun _ => rfl, fun _ => rfl⟩
instance : EncOne byt := ⟨fun _ => rfl, fun _ => rfl⟩
section arr
variable {α : Type} {f : α → AV} {s sz n m a o b fl : Nat} {l l' : List α} {t : TypeId} {cs cs' : List AV} {σ rest : Store} {put : Ent → Store} {K : AV → Prop} {k : AV → Store → Prop} {u x : AV} {z : Int} {kk : IntKind} {cond : Prop}
/-! where an element stands -/
instance (priority := 1100) ixA0 [h : NatOf z a] : Stp (Do (aIndexAddr (.array n) 1 (ptrAt b 0) (.val (.int kk z))) K) (Need (a < n) (K (ptrAt b a))) := ⟨fun ⟨h1, hK⟩ => by
  refine ⟨_, ⟨by rw [h.eq]; omega, by rw [h.eq]; omega, rfl⟩, ?_⟩
  rw [h.eq, Int.toNat_natCast, addr_lit_add, Nat.mul_one, Nat.zero_add]
  exact hK⟩
instance ixA [h : NatOf z a] : Stp (Do (aIndexAddr (.array n) 1 (ptrAt b o) (.val (.int kk z))) K) (Need (a < n) (K (ptrAt b (o + a)))) := ⟨fun ⟨h1, hK⟩ => by
  refine ⟨_, ⟨by rw [h.eq]; omega, by rw [h.eq]; omega, rfl⟩, ?_⟩
  rw [h.eq, Int.toNat_natCast, addr_lit_add, Nat.mul_one]
  exact hK⟩
instance ixV [h : NatOf z a] : Stp (Do (aIndexAddr .slice 1 (.val (.slice (some ⟨b, o, none⟩) n m)) (.val (.int kk z))) K) (Need (a < n) (K (ptrAt b (o + a)))) := ⟨fun ⟨h1, hK⟩ => by
  refine ⟨_, ⟨by rw [h.eq]; omega, by rw [h.eq]; omega, rfl⟩, ?_⟩
  rw [h.eq, Int.toNat_natCast, addr_lit_add, Nat.mul_one]
  exact hK⟩
theorem drop_one [Inhabited α] (hf : EncOne f) {l : List α} {a : Nat} (h : a < l.length) : ((l.map f).drop a).take 1 = [f (l.getD a default)] := by
  have e : l.drop a = l.getD a default :: l.drop (a + 1) := by
    rw [List.drop_eq_getElem_cons h, List.getD_eq_getElem?_getD, List.getElem?_eq_getElem h]
    rfl
  rw [← List.map_drop, e]
  simp
instance ixAR [Inhabited α] [hf : EncOne f] [h : NatOf z a] : Stp (Do (aIndexAddr (.array n) 1 (.rptr (l.map f)) (.val (.int kk z))) K) (Need (a < n ∧ a < l.length) (K (.rptr [f (l.getD a default)]))) := ⟨fun ⟨h1, hK⟩ => by
  refine ⟨_, ⟨by rw [h.eq]; omega, by rw [h.eq]; omega, ?_, rfl⟩, ?_⟩
  · rw [h.eq, Int.toNat_natCast, List.length_map]; omega
  · rw [h.eq, Int.toNat_natCast, Nat.mul_one, drop_one hf h1.2]
    exact hK⟩
instance ixG [Inhabited α] [hf : EncOne f] [h : NatOf z a] [hc : Cells (f (l.getD a default)) [u]] : Stp (Do (aIndex (.array n) false 1 (.agg (l.map f)) (.val (.int kk z))) K) (Need (a < n ∧ a < l.length) (K u)) := ⟨fun ⟨h1, hK⟩ => by
  refine ⟨_, ⟨by rw [h.eq]; omega, by rw [h.eq]; omega, ?_, fun _ => rfl, rfl⟩, ?_⟩
  · rw [h.eq, Int.toNat_natCast, List.length_map]; omega
  · rw [h.eq, Int.toNat_natCast, Nat.mul_one, drop_one hf h1.2]
    have e := hc.eq
    rw [hf.cells] at e
    have e2 : f (l.getD a default) = u := by simpa using e
    rw [e2]
    exact hK⟩
/-! a variable's element -/
class ElemAt (cs : List AV) (o : Nat) (cond : outParam Prop) (u : outParam AV) : Prop where
  get : cond → o < cs.length ∧ (cs.drop o).take 1 = [u]
class SetAt (cs : List AV) (o : Nat) (x : AV) (cond : outParam Prop) (cs' : outParam (List AV)) : Prop where
  set : cond → o < cs.length ∧ splice cs o [x] = cs'
  plain : x.cells = [x] ∧ x.one = true
instance elM [Inhabited α] [hf : EncOne f] [hc : Cells (f (l.getD o default)) [u]] : ElemAt (l.map f) o (o < l.length) u := ⟨fun h => ⟨by simpa using h, by
  rw [drop_one hf h]
  have e := hc.eq
  rw [hf.cells] at e
  exact e⟩⟩
theorem splice_map {l : List α} {o : Nat} (h : o < l.length) (y : α) : splice (l.map f) o [f y] = (l.set o y).map f := by
  unfold splice
  rw [← List.map_take, ← List.map_drop, List.set_eq_take_append_cons_drop, if_pos h]
  simp
instance setMap {y : α} [hf : EncOne f] [ha : AsF f x y] : SetAt (l.map f) o x (o < l.length) ((l.set o y).map f) := ⟨fun h => ⟨by simpa using h, by rw [ha.eq]; exact splice_map h y⟩, by rw [ha.eq]; exact ⟨hf.cells y, hf.one y⟩⟩
instance (priority := 70) ldEl [hv : VarAt b σ t cs put rest] [h : ElemAt cs o cond u] : Stp (Do (loadA false 1 (ptrAt b o) σ) K) (Need cond (K u)) := ⟨fun ⟨h1, hK⟩ => by
  obtain ⟨g1, g2⟩ := h.get h1
  obtain ⟨σ1, σ2, e, _⟩ := hv.at_
  exact ⟨u, ⟨by decide, fun _ => rfl, rfl, t, cs, by rw [e]; simp, by show o + 1 ≤ _; omega, by show u = mkV false ((cs.drop o).take 1); rw [g2]; rfl⟩, hK⟩⟩
instance (priority := 70) stEl [hv : VarAt b σ t cs put rest] [h : SetAt cs o x cond cs'] : Stp (storeA 1 (ptrAt b o) x σ k) (Need cond (k .undef (put (.var b t cs')))) := ⟨fun ⟨h1, hK⟩ => by
  obtain ⟨g1, g2⟩ := h.set h1
  obtain ⟨σ1, σ2, e, e2, _⟩ := hv.at_
  refine ⟨by rw [h.plain.1]; rfl, by rw [h.plain.1]; intro c hc; rw [List.mem_singleton.1 hc]; exact h.plain.2, rfl, σ1, σ2, t, cs, e, by show o + 1 ≤ _; omega, ?_⟩
  rw [e2] at hK
  rw [h.plain.1, g2]
  exact hK⟩
/-! a variable that is an array, whole -/
instance (priority := 60) ldAll [hf : EncOne f] [hv : VarAt b σ t (l.map f) put rest] : Stp (Do (loadA true s (ptrAt b 0) σ) K) (Need (l.length = s ∧ 0 < s) (K (.agg (l.map f)))) := ⟨fun ⟨h1, hK⟩ => by
  obtain ⟨σ1, σ2, e, _⟩ := hv.at_
  refine ⟨_, ⟨h1.2, fun h => by (cases h), rfl, t, l.map f, by rw [e]; simp, by simp [h1.1], ?_⟩, hK⟩
  rw [List.drop_zero, List.take_of_length_le (by simp [h1.1])]
  rfl⟩
instance (priority := 60) stAll [hf : EncOne f] [hv : VarAt b σ t (l.map f) put rest] : Stp (storeA s (ptrAt b 0) (.agg (l'.map f)) σ k) (Need (l.length = s ∧ l'.length = s) (k .undef (put (.var b t (l'.map f))))) := ⟨fun ⟨h1, hK⟩ => by
  obtain ⟨σ1, σ2, e, e2, _⟩ := hv.at_
  refine ⟨by simp [AV.cells, h1.2], fun c hc => ?_, rfl, σ1, σ2, t, l.map f, e, by simp [h1.1], ?_⟩
  · obtain ⟨y, _, rfl⟩ := List.mem_map.1 (show c ∈ l'.map f from hc)
    exact hf.one y
  · rw [e2] at hK
    have : splice (l.map f) 0 (AV.cells (.agg (l'.map f))) = l'.map f := by
      show splice (l.map f) 0 (l'.map f) = _
      unfold splice
      rw [List.take_zero, List.nil_append, Nat.zero_add, List.drop_of_length_le (by simp; omega), List.append_nil]
    rw [this]
    exact hK⟩
/-! a slice of a variable; of an array that turns no more -/
instance slA [h : NatOf z a] : Stp (Do (aSlice (.array n) 1 (ptrAt b o) (some (.val (.int kk z))) none none) K) (Need (a < n) (K (.val (.slice (some ⟨b, o + a, none⟩) (n - a) (n - a))))) := ⟨fun ⟨h1, hK⟩ => by
  have e := h.eq
  subst e
  refine ⟨_, ⟨by omega, by omega, Int.le_refl _, rfl⟩, ?_⟩
  rw [Int.toNat_natCast, if_neg (by omega), addr_lit_add, Nat.mul_one, show ((n : Int) - (a : Int)).toNat = n - a by omega]
  exact hK⟩
instance slA0 : Stp (Do (aSlice (.array n) 1 (ptrAt b o) none none none) K) (K (.val (.slice (some ⟨b, o, none⟩) n n))) := ⟨fun hK => by
  refine ⟨_, ⟨Int.le_refl _, by omega, Int.le_refl _, rfl⟩, ?_⟩
  have e1 : ((n : Int) - 0).toNat = n := by omega
  have e2 : (if n = Int.toNat 0 then (⟨b, o, none⟩ : Addr) else (⟨b, o, none⟩ : Addr).add (Int.toNat 0 * 1)) = ⟨b, o, none⟩ := by
    split
    · rfl
    · rw [addr_lit_add]; rfl
  rw [e1, e2]
  exact hK⟩
instance (priority := 70) srcV [Inhabited α] [hf : EncOne f] [hv : VarAt b σ t (l.map f) put rest] [he : Enc f 1] : SrcI 1 σ (.val (.slice (some ⟨b, 0, none⟩) l.length m)) α f l := ⟨⟨.inr ⟨rfl, rfl, t, l.map f, by
    obtain ⟨σ1, σ2, e, _⟩ := hv.at_
    rw [e]; simp, by simp, fun c hc => by obtain ⟨y, _, rfl⟩ := List.mem_map.1 hc; rw [hf.cells]; rfl, by rw [List.drop_zero, List.take_of_length_le (by simp)]⟩, fun _ c hc => by obtain ⟨y, _, rfl⟩ := List.mem_map.1 hc; rw [hf.cells]; rfl⟩⟩
/-! literals of arrays -/
class ArrZ (zs : List AV) (α : outParam Type) (f : outParam (α → AV)) : Prop where
  some : True
instance (r : List AV) : ArrZ (.val (.int .u32 0) :: r) UInt32 wrd := ⟨trivial⟩
instance (priority := 60) litA {zs : List AV} {offs : List (Nat × Nat)} {parts : List (Nat × AV)} {ys : List α} [hz : ArrZ zs α f] [hf : EncOne f] [hp : Parts f parts 0 ys] : Stp (Do (aLit zs offs parts) K) (Fact (fillA (offs[·]?) zs parts = some (ys.map f)) (K (.agg (ys.map f)))) := ⟨fun ⟨h, hK⟩ => ⟨_, ⟨fun p hpm c hc => by
  rw [hp.eq] at hpm
  obtain ⟨q, hq, rfl⟩ := List.mem_map.1 hpm
  have h2 := List.mem_zipIdx hq |>.2
  have : q.1 ∈ ys.map f := by
    rw [h2.2]
    exact List.getElem_mem _
  obtain ⟨y, _, e⟩ := List.mem_map.1 this
  rw [← e, hf.cells] at hc
  rw [List.mem_singleton.1 hc]
  exact hf.one y, _, h, rfl⟩, hK⟩⟩
end arr
end Go.Ab
