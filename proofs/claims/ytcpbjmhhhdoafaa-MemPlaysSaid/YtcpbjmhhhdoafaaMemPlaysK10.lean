/- The texts that this claim needs, part 10: a logic over abstract values, its steps, what the functions do. No condition of its own. -/
import Derived.ChangeKeysEq
import Derived.Test.YtcpbjmhhhdoafaaMemPlaysK9
/- Arrays of bytes held against one another. -/
set_option linter.unusedVariables false
set_option linter.unusedSimpArgs false
namespace Go.Ab
abbrev bytv (b : UInt8) : Value := .int .u8 b.toNat
theorem run_items {P : Program} {e : TypeId} (he : P.underlying e = some (.int .u8)) (c c' : List UInt8) (d : Nat) (w : World) : ∀ is : List Nat, (∀ i ∈ is, i < c.length ∧ i < c'.length) →
    (Op.eqItems (d + 1) e 1 (c.map bytv).toArray (c'.map bytv).toArray is).run P w = .ok (is.all fun i => decide (c.getD i 0 = c'.getD i 0)) w
  | [], _ => by simp [Op.eqItems]
  | i :: is, h => by
    obtain ⟨h1, h2⟩ := h i List.mem_cons_self
    have ih := run_items he c c' d w is fun j hj => h j (List.mem_cons_of_mem _ hj)
    have p1 : (part e (c.map bytv).toArray (i * 1)).run P w = .ok (bytv (c.getD i 0)) w := part_plain he rfl (by simp [List.getD_eq_getElem?_getD, h1]) w
    have p2 : (part e (c'.map bytv).toArray (i * 1)).run P w = .ok (bytv (c'.getD i 0)) w := part_plain he rfl (by simp [List.getD_eq_getElem?_getD, h2]) w
    have p3 : (Op.equalIn (d + 1) e (bytv (c.getD i 0)) (bytv (c'.getD i 0))).run P w = .ok (decide (c.getD i 0 = c'.getD i 0)) w := by
      rw [run_equalIn_int w d e .u8 .u8 _ _ he]
      congr 1
      rw [Bool.eq_iff_iff, beq_iff_eq, decide_eq_true_eq]
      constructor
      · intro h; exact UInt8.toNat_inj.1 (Int.ofNat.inj h)
      · intro h; rw [h]
    simp only [Op.eqItems, Sem.run_bind, p1, p2, p3, Result.andThen_ok, List.all_cons]
    by_cases hh : c.getD i 0 = c'.getD i 0
    · rw [decide_eq_true hh]; simpa using ih
    · rw [decide_eq_false hh]; simp
theorem all_same {c c' : List UInt8} {n : Nat} (h : c.length = n) (h' : c'.length = n) : ((List.range n).all fun i => decide (c.getD i 0 = c'.getD i 0)) = decide (c = c') := by
  rw [Bool.eq_iff_iff, List.all_eq_true, decide_eq_true_eq]
  constructor
  · intro hh
    apply List.ext_getElem (by omega)
    intro i h1 h2
    have := hh i (List.mem_range.2 (by omega))
    simpa [List.getD_eq_getElem?_getD, h1, h2] using this
  · rintro rfl i _; simp
class ArrB (P : Program) (t : TypeId) (n : outParam Nat) : Prop where
  h : ∃ e, P.underlying t = some (.array n e) ∧ P.underlying e = some (.int .u8) ∧ (P.info? e).isSome = true ∧ P.cellsOf e = 1 ∧ P.eqGuardType P.depth t = false
theorem allVals_byt (c : List UInt8) : allVals (c.map byt) = some (c.map bytv) := by
  induction c with
  | nil => rfl
  | cons a c ih => simp [allVals, ih, byt]
theorem arr_plain (c : List UInt8) : plainV (.agg (c.map byt)) = some (.agg (c.map bytv).toArray) := by
  simp [plainV, allVals_byt]
section arr
variable {P : Program} {t : TypeId} {n : Nat} {c c' : List UInt8} {K : AV → Prop}
theorem run_arr [h : ArrB P t n] (h1 : c.length = n) (h2 : c'.length = n) (w : World) : (Op.equalIn 10000 t (.agg (c.map bytv).toArray) (.agg (c'.map bytv).toArray)).run P w = .ok (decide (c = c')) w := by
  obtain ⟨e, g1, g2, g3, g4, g5⟩ := h.h
  obtain ⟨i, g3⟩ := Option.isSome_iff_exists.1 g3
  show (Op.equalIn (9998 + 1 + 1) t _ _).run P w = _
  rw [run_equalIn_array w (9998 + 1) _ _ g1 g3, g4, run_items g2 c c' 9998 w _ (fun i hi => by have := List.mem_range.1 hi; omega), all_same h1 h2]
instance neqArr [h : ArrB P t n] : Stp (Do (aBin P .neq t (.agg (c.map byt)) (.agg (c'.map byt))) K) (Need (c.length = n ∧ c'.length = n) (K (.val (.bool (decide (¬ c = c')))))) := ⟨fun ⟨⟨h1, h2⟩, hK⟩ => by
  refine ⟨_, (aBin_plain (arr_plain c) (arr_plain c') fun xo yo w => ?_).2 rfl, hK⟩
  obtain ⟨e, g1, g2, g3, g4, g5⟩ := h.h
  simp only [Sem.run_bind, run_eqGuard_agg w .neq t xo yo _ _ g5, Result.andThen_ok, run_neq_struct, run_arr (t := t) h1 h2 w, Result.andThen_ok]
  congr 2
  by_cases he : c = c' <;> simp [he]⟩
end arr
instance : ArrB Go.Proofs.Try.prog 45 32 := ⟨⟨5, by kernel_rfl, by kernel_rfl, by kernel_rfl, by kernel_rfl, by kernel_rfl⟩⟩
end Go.Ab

/- The document's mem. -/
set_option linter.unusedVariables false
set_option linter.unusedSimpArgs false
namespace Go.Ab
abbrev RMT : TypeId := 47
/-- The document's mem's memory. -/
abbrev rmS (b : Nat) (v : Value) (l : List En) (s : Int) (c : List UInt8) : Store := [.var b RMT (memCs (.own v l.length) s c), .row v EnT_ 4 (l.map En.av) 0]
class RMemAt (b : Nat) (σ : Store) (v : outParam Value) (l : outParam (List En)) (s : outParam Int) (c : outParam (List UInt8)) (rest : outParam Store) : Prop where
  perm : σ.Perm (rmS b v l s c ++ rest)
instance {b : Nat} {σ rest rest2 : Store} {v : Value} {l : List En} {s : Int} {c : List UInt8} {put put2 : Ent → Store} [hv : VarAt b σ RMT (memCs (.own v l.length) s c) put rest] [hr : RowAt v rest EnT_ 4 (l.map En.av) 0 put2 rest2] : RMemAt b σ v l s c rest2 := ⟨by
  obtain ⟨σ1, σ2, rfl, _, rfl⟩ := hv.at_
  obtain ⟨ρ1, ρ2, e, _, rfl⟩ := hr.at_
  refine List.perm_middle.trans ?_
  rw [e]
  exact List.Perm.cons _ List.perm_middle⟩
/-- The last write of a key. -/
def lastK (L : List En) (k : List UInt8) : Option En := L.reverse.find? fun x => decide (x.key = k)
theorem lastK_snoc (L : List En) (e : En) (k : List UInt8) : lastK (L ++ [e]) k = if e.key = k then some e else lastK L k := by
  unfold lastK
  rw [List.reverse_append, List.reverse_singleton, List.singleton_append, List.find?_cons]
  by_cases h : e.key = k <;> simp [h]
/-- What is true of the document's mem. -/
def rmI (L : List En) (s : Int) : Prop := memI (foldE L) s ∧ (∀ k, getE k (foldE L) = lastK L k) ∧ L.length ≤ 1000000
theorem keyV_get {F : List En} (hr : Rises F) (k : List UInt8) : hasK F k = (getE k F).isSome ∧ keyV F k = (getE k F).getD En.zero := by
  by_cases h : hasK F k = true
  · obtain ⟨h1, h2⟩ := place_lt hr h
    have hm : F.getD (placeN F k) default ∈ F := by rw [List.getD_eq_getElem?_getD, List.getElem?_eq_getElem h1]; exact List.getElem_mem _
    have := getE_of_mem hr hm
    rw [h2] at this
    rw [this, keyV, if_pos h, h]
    exact ⟨rfl, rfl⟩
  · have hn : getE k F = none := by
      cases hg : getE k F with
      | none => rfl
      | some x =>
        obtain ⟨h1, h2⟩ := getE_mem hg
        exact absurd (by unfold hasK; rw [List.any_eq_true]; exact ⟨x, h1, by simp [h2]⟩) h
    rw [hn, keyV, if_neg h, Bool.eq_false_iff.2 h]
    exact ⟨rfl, rfl⟩
def putR (L : List En) (s : Int) (e : En) : List En := if putX (foldE L) s e = 0 then L ++ [e] else L
theorem putR_fold {L : List En} {s : Int} (h : memI (foldE L) s) (e : En) : foldE (putR L s e) = putL (foldE L) s e := by
  unfold putR
  by_cases hx : putX (foldE L) s e = 0
  · rw [if_pos hx, putL_put h hx, foldE_snoc]
  · rw [if_neg hx, putL_err hx]
theorem rmI_put {L : List En} {s : Int} (h : rmI L s) (hl : L.length < 1000000) (e : En) : rmI (putR L s e) (putS (foldE L) s e) := by
  obtain ⟨h1, h2, h3⟩ := h
  refine ⟨by rw [putR_fold h1]; exact putI h1, fun k => ?_, ?_⟩
  · by_cases hx : putX (foldE L) s e = 0
    · have hr : putR L s e = L ++ [e] := by rw [putR, if_pos hx]
      rw [hr, foldE_snoc, getE_put h1.1, lastK_snoc, h2]
      split
      · rename_i hk
        congr 1
        cases hg : lastK L k with
        | none => rfl
        | some x =>
          have hx2 := h2 k
          rw [hg] at hx2
          have h4 := h1.2.1 x (getE_mem hx2).1
          have h5 := (putX_ok hx).2.1
          show (if x.seq ≤ e.seq then e else x) = e
          rw [if_pos (by omega)]
      · rfl
    · have hr : putR L s e = L := by rw [putR, if_neg hx]
      rw [hr]; exact h2 k
  · unfold putR; split
    · simp; omega
    · exact h3
theorem rmI0 (s : Int) : rmI [] s := ⟨memI0 s, fun _ => rfl, by simp⟩
def ref10_New.mark : Mark := ⟨fun t => Nat.beq t 1, fun t => false, fun t => false, fun t => false, fun t => false⟩
def ref10_New.ann : Ann := ⟨fun n => [], fun n => none, fun n => none⟩
/-- 'marlstone/marlstoneref10.New' -/
def ref10_New.sh (σ : Store) (Q : AEnd → Store → Prop) : Prop :=
  Do (aPureC Go.Proofs.Try.prog 33 [(.val (.string ⟨#[]⟩))]) fun t1 =>
  Do (aLit [.val (.slice none 0 0), .val (.int .i64 0), .val (.int .u8 0), .val (.int .u8 0), .val (.int .u8 0), .val (.int .u8 0), .val (.int .u8 0), .val (.int .u8 0), .val (.int .u8 0), .val (.int .u8 0), .val (.int .u8 0), .val (.int .u8 0), .val (.int .u8 0), .val (.int .u8 0), .val (.int .u8 0), .val (.int .u8 0), .val (.int .u8 0), .val (.int .u8 0), .val (.int .u8 0), .val (.int .u8 0), .val (.int .u8 0), .val (.int .u8 0), .val (.int .u8 0), .val (.int .u8 0), .val (.int .u8 0), .val (.int .u8 0), .val (.int .u8 0), .val (.int .u8 0), .val (.int .u8 0), .val (.int .u8 0), .val (.int .u8 0), .val (.int .u8 0), .val (.int .u8 0), .val (.int .u8 0)] [(0, 1), (1, 1), (2, 32)] [(2, t1)]) fun t2 =>
  aNewVar 47 (t2 : AV).cells σ fun t3 σ =>
  Q (.ret t3) σ
theorem ref10_New.eq (σ : Store) (Q : AEnd → Store → Prop) : vc (semOf Go.Proofs.Try.prog ref10_New.mark) Go.Proofs.Try.f15.ntmps ref10_New.ann (bodyOf Go.Proofs.Try.f15) (endK [.tmp 0] Q) (argFr []) σ = ref10_New.sh  σ Q := by kernel_rfl
theorem ref10_New.go {σ : Store} {Q : AEnd → Store → Prop} (h : ref10_New.sh  σ Q) : ACalls Go.Proofs.Try.prog 15 [] σ Q :=
  acalls_of_eq [.tmp 0] Go.Proofs.Try.func15 (by kernel_rfl) (by kernel_rfl) (by kernel_rfl) (by kernel_rfl) (ref10_New.eq  σ Q) h
def ref10_Link.mark : Mark := ⟨fun t => Nat.beq t 11 || Nat.beq t 13, fun t => false, fun t => Nat.beq t 2 || Nat.beq t 3, fun t => Nat.beq t 10, fun t => false⟩
def ref10_Link.ann : Ann := ⟨fun n => [], fun n => none, fun n => none⟩
/-- 'marlstone/marlstoneref10.Link' -/
def ref10_Link.sh (a0 a1 : AV) (σ : Store) (Q : AEnd → Store → Prop) : Prop :=
  Do (aFreeze ((a0 : AV)).cells) fun t2 =>
  Do (aFreeze ((a1 : AV)).cells) fun t3 =>
  aNewVar 45 [.val (.int .u8 0), .val (.int .u8 0), .val (.int .u8 0), .val (.int .u8 0), .val (.int .u8 0), .val (.int .u8 0), .val (.int .u8 0), .val (.int .u8 0), .val (.int .u8 0), .val (.int .u8 0), .val (.int .u8 0), .val (.int .u8 0), .val (.int .u8 0), .val (.int .u8 0), .val (.int .u8 0), .val (.int .u8 0), .val (.int .u8 0), .val (.int .u8 0), .val (.int .u8 0), .val (.int .u8 0), .val (.int .u8 0), .val (.int .u8 0), .val (.int .u8 0), .val (.int .u8 0), .val (.int .u8 0), .val (.int .u8 0), .val (.int .u8 0), .val (.int .u8 0), .val (.int .u8 0), .val (.int .u8 0), .val (.int .u8 0), .val (.int .u8 0)] σ fun t4 σ =>
  Do (aSlLit (mkE [.val (.int .u8 0)]) 1 1 [(0, (W8 2))]) fun t5 =>
  Do (aConvBS t5) fun t6 =>
  Do (aSlice (.array 32) 1 t2 none none none) fun t7 =>
  Do (aConvBS t7) fun t8 =>
  Do (aBin Go.Proofs.Try.prog .add 9 t6 t8) fun t9 =>
  Do (loadF true 4 t3) fun t10 =>
  Do (aPureC Go.Proofs.Try.prog 55 [t10]) fun t11 =>
  Do (aBin Go.Proofs.Try.prog .add 9 t9 t11) fun t12 =>
  Do (aPureC Go.Proofs.Try.prog 33 [t12]) fun t13 =>
  storeA 32 t4 t13 σ fun u σ_1 =>
  Do (loadA true 32 t4 σ_1) fun r4 => Q (.ret r4) σ_1
theorem ref10_Link.eq (a0 a1 : AV) (σ : Store) (Q : AEnd → Store → Prop) : vc (semOf Go.Proofs.Try.prog ref10_Link.mark) Go.Proofs.Try.f37.ntmps ref10_Link.ann (bodyOf Go.Proofs.Try.f37) (endK [.cell 4 true 32] Q) (argFr [a0, a1]) σ = ref10_Link.sh a0 a1 σ Q := by kernel_rfl
theorem ref10_Link.go {a0 a1 : AV} {σ : Store} {Q : AEnd → Store → Prop} (h : ref10_Link.sh a0 a1 σ Q) : ACalls Go.Proofs.Try.prog 37 [a0, a1] σ Q :=
  acalls_of_eq [.cell 4 true 32] Go.Proofs.Try.func37 (by kernel_rfl) (by kernel_rfl) (by kernel_rfl) (by kernel_rfl) (ref10_Link.eq a0 a1 σ Q) h
def ref10_Mem_Put.mark : Mark := ⟨fun t => Nat.beq t 10 || Nat.beq t 31 || Nat.beq t 62, fun t => false, fun t => Nat.beq t 3, fun t => Nat.beq t 9 || Nat.beq t 15 || Nat.beq t 30 || Nat.beq t 46 || Nat.beq t 53 || Nat.beq t 61, fun t => false⟩
def ref10_Mem_Put.ann : Ann := ⟨fun n => [], fun n => none, fun n => none⟩
/-- '(*marlstone/marlstoneref10.Mem).Put' -/
def ref10_Mem_Put.sh (a0 a1 : AV) (σ : Store) (Q : AEnd → Store → Prop) : Prop :=
  Do (aFreeze ((a1 : AV)).cells) fun t3 =>
  Do (loadF true 4 t3) fun t9 =>
  Do (aPureC Go.Proofs.Try.prog 34 [t9]) fun t10 =>
  Do (aUn Go.Proofs.Try.prog .not t10) fun t12 =>
  Do (aGuard t12 false (aFieldAddr 3 1 t3)) fun t14 =>
  Do (aGuard t12 false (loadF false 1 t14)) fun t15 =>
  Do (aGuard t12 false (aIs a0)) fun t16 =>
  Do (aGuard t12 false (aNil t16)) fun t17 =>
  Do (aGuard t12 false (aFieldAddr 1 1 t17)) fun t18 =>
  Do (aGuard t12 false (loadA false 1 t18 σ)) fun t19 =>
  Do (aGuard t12 false (aBin Go.Proofs.Try.prog .leq 3 t15 t19)) fun t20 =>
  Do (aPick t12 (.val (.bool true)) t20) fun t21 =>
  aCond t21
    (Q (.ret (.val (.int .i64 1))) σ)
    (Do (aNil a0) fun t23 =>
  Do (aFieldAddr 0 1 t23) fun t24 =>
  Do (loadA false 1 t24 σ) fun t25 =>
  aCall Go.Proofs.Try.prog 35 [t25] σ (fun t26 σ =>
  Do (aFieldAddr 0 1 t3) fun t29 =>
  Do (loadF false 1 t29) fun t30 =>
  Do (aPureC Go.Proofs.Try.prog 36 [t26, t30]) fun t31 =>
  Do (aExt t31 0) fun t32 =>
  Do (aExt t31 1) fun t33 =>
  Do (aBuiltin Go.Proofs.Try.prog .len #[39] [t26]) fun t35 =>
  Do (aBin Go.Proofs.Try.prog .geq 3 t35 (.val (.int .i64 64))) fun t36 =>
  Do (aGuard t36 true (aIs t33)) fun t38 =>
  Do (aGuard t36 true (aUn Go.Proofs.Try.prog .not t38)) fun t39 =>
  Do (aPick t36 t39 (.val (.bool false))) fun t40 =>
  aCond t40
    (Q (.ret (.val (.int .i64 3))) σ)
    (Do (aNil a0) fun t43 =>
  Do (aFieldAddr 0 1 t43) fun t44 =>
  Do (loadA false 1 t44 σ) fun t45 =>
  Do (loadF true 4 t3) fun t46 =>
  Do (aSlLit (mkE [.val (.string ⟨#[]⟩), .val (.string ⟨#[]⟩), .val (.bool false), .val (.int .i64 0)]) 4 1 [(0, t46)]) fun t47 =>
  aAppend 29 4 48 t45 t47 σ (subK fun t48 σ_1 =>
  Do (aNil a0) fun t49 =>
  Do (aFieldAddr 0 1 t49) fun t50 =>
  storeA 1 t50 t48 σ_1 fun u σ_2 =>
  Do (aFieldAddr 3 1 t3) fun t52 =>
  Do (loadF false 1 t52) fun t53 =>
  Do (aNil a0) fun t54 =>
  Do (aFieldAddr 1 1 t54) fun t55 =>
  storeA 1 t55 t53 σ_2 fun u_1 σ_3 =>
  Do (aNil a0) fun t58 =>
  Do (aFieldAddr 2 32 t58) fun t59 =>
  Do (loadA true 32 t59 σ_3) fun t60 =>
  Do (loadF true 4 t3) fun t61 =>
  Do (aPureC Go.Proofs.Try.prog 37 [t60, t61]) fun t62 =>
  Do (aNil a0) fun t63 =>
  Do (aFieldAddr 2 32 t63) fun t64 =>
  storeA 32 t64 t62 σ_3 fun u_2 σ_4 =>
  Q (.ret (.val (.int .i64 0))) σ_4))) (fun e σ_5 => Q (.pan e) σ_5))
theorem ref10_Mem_Put.eq (a0 a1 : AV) (σ : Store) (Q : AEnd → Store → Prop) : vc (semOf Go.Proofs.Try.prog ref10_Mem_Put.mark) Go.Proofs.Try.f17.ntmps ref10_Mem_Put.ann (bodyOf Go.Proofs.Try.f17) (endK [.tmp 4] Q) (argFr [a0, a1]) σ = ref10_Mem_Put.sh a0 a1 σ Q := by kernel_rfl
theorem ref10_Mem_Put.go {a0 a1 : AV} {σ : Store} {Q : AEnd → Store → Prop} (h : ref10_Mem_Put.sh a0 a1 σ Q) : ACalls Go.Proofs.Try.prog 17 [a0, a1] σ Q :=
  acalls_of_eq [.tmp 4] Go.Proofs.Try.func17 (by kernel_rfl) (by kernel_rfl) (by kernel_rfl) (by kernel_rfl) (ref10_Mem_Put.eq a0 a1 σ Q) h
def ref10_Mem_Range.mark : Mark := ⟨fun t => false, fun t => false, fun t => false, fun t => Nat.beq t 25 || Nat.beq t 36 || Nat.beq t 45, fun t => false⟩
def ref10_Mem_Range.ann : Ann := ⟨fun n => bif Nat.beq n 4 then [1, 2, 7, 8, 9] else [], fun n => none, fun n => none⟩
/-- '(*marlstone/marlstoneref10.Mem).Range' -/
def ref10_Mem_Range.sh (a0 a1 a2 : AV) (σ : Store) (Q : AEnd → Store → Prop) : Prop :=
  Do (aNil a0) fun t11 =>
  Do (aFieldAddr 0 1 t11) fun t12 =>
  Do (loadA false 1 t12 σ) fun t13 =>
  aCall Go.Proofs.Try.prog 35 [t13] σ (fun t14 σ =>
  aLoop (fun go vs σ_1 =>
    At vs 0 fun s1 => At vs 1 fun s2 => At vs 2 fun s7 => At vs 3 fun s8 => At vs 4 fun s9 => Do (aBuiltin Go.Proofs.Try.prog .len #[39] [s8]) fun t17 =>
    Do (aBin Go.Proofs.Try.prog .lss 3 s9 t17) fun t18 =>
    aCond t18
      (Do (aIndexAddr .slice 4 s8 s9) fun t23 =>
    Do (aFieldAddr 0 1 t23) fun t24 =>
    Do (loadF false 1 t24) fun t25 =>
    Do (aBin Go.Proofs.Try.prog .geq 9 t25 s1) fun t27 =>
    Do (aGuard t27 true (aIs s2)) fun t29 =>
    Do (aGuard t27 true (aBin Go.Proofs.Try.prog .eql 9 t29 (.val (.string ⟨#[]⟩)))) fun t30 =>
    Do (aGuard t27 true (aIs t30)) fun t31 =>
    Do (aGuard t31 false (aIs s8)) fun t32 =>
    Do (aGuard t31 false (aIs s9)) fun t33 =>
    Do (aGuard t31 false (aIndexAddr .slice 4 t32 t33)) fun t34 =>
    Do (aGuard t31 false (aFieldAddr 0 1 t34)) fun t35 =>
    Do (aGuard t31 false (loadF false 1 t35)) fun t36 =>
    Do (aGuard t31 false (aIs s2)) fun t37 =>
    Do (aGuard t31 false (aBin Go.Proofs.Try.prog .lss 9 t36 t37)) fun t38 =>
    Do (aGuard t27 true (aPick t31 (.val (.bool true)) t38)) fun t39 =>
    Do (aPick t27 t39 (.val (.bool false))) fun t40 =>
    aCond t40
      (Do (aIndexAddr .slice 4 s8 s9) fun t44 =>
      Do (loadF true 4 t44) fun t45 =>
      Do (aSlLit (mkE [.val (.string ⟨#[]⟩), .val (.string ⟨#[]⟩), .val (.bool false), .val (.int .i64 0)]) 4 1 [(0, t45)]) fun t46 =>
      aAppend 29 4 48 s7 t46 σ_1 (subK fun t47 σ_2 =>
      Do (aBin Go.Proofs.Try.prog .add 3 s9 (.val (.int .i64 1))) fun t20 =>
    go [s1, s2, t47, s8, t20] σ_2))
      (Do (aBin Go.Proofs.Try.prog .add 3 s9 (.val (.int .i64 1))) fun t20_1 =>
    go [s1, s2, s7, s8, t20_1] σ_1))
      (Q (.ret s7) σ_1))
    [a1, a2, (.val (.slice none 0 0)), t14, (.val (.int .i64 0))] σ) (fun e σ_3 => Q (.pan e) σ_3)
theorem ref10_Mem_Range.eq (a0 a1 a2 : AV) (σ : Store) (Q : AEnd → Store → Prop) : vc (semOf Go.Proofs.Try.prog ref10_Mem_Range.mark) Go.Proofs.Try.f21.ntmps ref10_Mem_Range.ann (bodyOf Go.Proofs.Try.f21) (endK [.tmp 6] Q) (argFr [a0, a1, a2]) σ = ref10_Mem_Range.sh a0 a1 a2 σ Q := by kernel_rfl
theorem ref10_Mem_Range.go {a0 a1 a2 : AV} {σ : Store} {Q : AEnd → Store → Prop} (h : ref10_Mem_Range.sh a0 a1 a2 σ Q) : ACalls Go.Proofs.Try.prog 21 [a0, a1, a2] σ Q :=
  acalls_of_eq [.tmp 6] Go.Proofs.Try.func21 (by kernel_rfl) (by kernel_rfl) (by kernel_rfl) (by kernel_rfl) (ref10_Mem_Range.eq a0 a1 a2 σ Q) h
def ref10_Mem_Get.mark : Mark := ⟨fun t => false, fun t => false, fun t => false, fun t => false, fun t => false⟩
def ref10_Mem_Get.ann : Ann := ⟨fun n => bif Nat.beq n 2 then [0, 1, 4, 6] else [], fun n => none, fun n => none⟩
/-- '(*marlstone/marlstoneref10.Mem).Get' -/
def ref10_Mem_Get.sh (a0 a1 : AV) (σ : Store) (Q : AEnd → Store → Prop) : Prop :=
  aNewVar 29 [.val (.string ⟨#[]⟩), .val (.string ⟨#[]⟩), .val (.bool false), .val (.int .i64 0)] σ fun t4 σ =>
  Do (aNil a0) fun t8 =>
  Do (aFieldAddr 0 1 t8) fun t9 =>
  Do (loadA false 1 t9 σ) fun t10 =>
  Do (aBuiltin Go.Proofs.Try.prog .len #[39] [t10]) fun t11 =>
  Do (aBin Go.Proofs.Try.prog .sub 3 t11 (.val (.int .i64 1))) fun t12 =>
  aLoop (fun go vs σ_1 =>
    At vs 0 fun s0 => At vs 1 fun s1 => At vs 2 fun s4 => At vs 3 fun s6 => Do (aBin Go.Proofs.Try.prog .geq 3 s6 (.val (.int .i64 0))) fun t14 =>
    aCond t14
      (Do (aNil s0) fun t18 =>
    Do (aFieldAddr 0 1 t18) fun t19 =>
    Do (loadA false 1 t19 σ_1) fun t20 =>
    Do (aIndexAddr .slice 4 t20 s6) fun t22 =>
    Do (aFieldAddr 0 1 t22) fun t23 =>
    Do (loadA false 1 t23 σ_1) fun t24 =>
    Do (aBin Go.Proofs.Try.prog .eql 9 t24 s1) fun t26 =>
    aCond t26
      (Do (aNil s0) fun t28 =>
      Do (aFieldAddr 0 1 t28) fun t29 =>
      Do (loadA false 1 t29 σ_1) fun t30 =>
      Do (aIndexAddr .slice 4 t30 s6) fun t32 =>
      Do (loadA true 4 t32 σ_1) fun t33 =>
      storeA 4 s4 t33 σ_1 fun u σ_2 =>
      Do (loadA true 4 s4 σ_2) fun r4 => Q (.ret (.tuple [r4, (.val (.bool true))])) σ_2)
      (Do (aBin Go.Proofs.Try.prog .sub 3 s6 (.val (.int .i64 1))) fun t16 =>
    go [s0, s1, s4, t16] σ_1))
      (Do (aLit [.val (.string ⟨#[]⟩), .val (.string ⟨#[]⟩), .val (.bool false), .val (.int .i64 0)] [(0, 1), (1, 1), (2, 1), (3, 1)] []) fun t34 =>
  storeA 4 s4 t34 σ_1 fun u_1 σ_3 =>
  Do (loadA true 4 s4 σ_3) fun r4_1 => Q (.ret (.tuple [r4_1, (.val (.bool false))])) σ_3))
    [a0, a1, t4, t12] σ
theorem ref10_Mem_Get.eq (a0 a1 : AV) (σ : Store) (Q : AEnd → Store → Prop) : vc (semOf Go.Proofs.Try.prog ref10_Mem_Get.mark) Go.Proofs.Try.f23.ntmps ref10_Mem_Get.ann (bodyOf Go.Proofs.Try.f23) (endK [.cell 4 true 4, .tmp 5] Q) (argFr [a0, a1]) σ = ref10_Mem_Get.sh a0 a1 σ Q := by kernel_rfl
theorem ref10_Mem_Get.go {a0 a1 : AV} {σ : Store} {Q : AEnd → Store → Prop} (h : ref10_Mem_Get.sh a0 a1 σ Q) : ACalls Go.Proofs.Try.prog 23 [a0, a1] σ Q :=
  acalls_of_eq [.cell 4 true 4, .tmp 5] Go.Proofs.Try.func23 (by kernel_rfl) (by kernel_rfl) (by kernel_rfl) (by kernel_rfl) (ref10_Mem_Get.eq a0 a1 σ Q) h
def ref10_Mem_Clear.mark : Mark := ⟨fun t => Nat.beq t 6, fun t => false, fun t => false, fun t => false, fun t => false⟩
def ref10_Mem_Clear.ann : Ann := ⟨fun n => [], fun n => none, fun n => none⟩
/-- '(*marlstone/marlstoneref10.Mem).Clear' -/
def ref10_Mem_Clear.sh (a0 : AV) (σ : Store) (Q : AEnd → Store → Prop) : Prop :=
  Do (aNil a0) fun t3 =>
  Do (aFieldAddr 0 1 t3) fun t4 =>
  storeA 1 t4 (.val (.slice none 0 0)) σ fun u σ =>
  Do (aPureC Go.Proofs.Try.prog 33 [(.val (.string ⟨#[]⟩))]) fun t6 =>
  Do (aNil a0) fun t7 =>
  Do (aFieldAddr 2 32 t7) fun t8 =>
  storeA 32 t8 t6 σ fun u_1 σ_1 =>
  Q (.ret (.tuple [])) σ_1
theorem ref10_Mem_Clear.eq (a0 : AV) (σ : Store) (Q : AEnd → Store → Prop) : vc (semOf Go.Proofs.Try.prog ref10_Mem_Clear.mark) Go.Proofs.Try.f18.ntmps ref10_Mem_Clear.ann (bodyOf Go.Proofs.Try.f18) (endK [] Q) (argFr [a0]) σ = ref10_Mem_Clear.sh a0 σ Q := by kernel_rfl
theorem ref10_Mem_Clear.go {a0 : AV} {σ : Store} {Q : AEnd → Store → Prop} (h : ref10_Mem_Clear.sh a0 σ Q) : ACalls Go.Proofs.Try.prog 18 [a0] σ Q :=
  acalls_of_eq [] Go.Proofs.Try.func18 (by kernel_rfl) (by kernel_rfl) (by kernel_rfl) (by kernel_rfl) (ref10_Mem_Clear.eq a0 σ Q) h
theorem ref10_New_ok : ACalls Go.Proofs.Try.prog 15 [] [] fun x σ' => ∃ b, x = .ret (ptrAt b 0) ∧ σ' = rmS b (.slice none 0 0) [] 0 (sha []) := by
  refine ACalls.fin (ref10_New.go ?_)
  unfold ref10_New.sh
  repeat' (first | with_reducible apply Stp.go | with_reducible refine imp fun _ => ?_ | (with_reducible refine hyp ?_ ?_; first | assumption | exact leftT_mem (by assumption)) | (with_reducible refine need ?_ ?_; first | trivial | omega | exact ⟨by assumption, by omega⟩ | (simp only [List.length_append, List.length_cons, List.length_nil, List.length_map, List.length_take, List.length_drop, List.length_replicate, List.length_set]; omega)) | (with_reducible refine fact ?_ ?_; first | trivial | exact ⟨rfl, rfl⟩ | kernel_rfl) | with_reducible refine choT (by assumption) ?_ | with_reducible refine choF (by assumption) ?_ | with_reducible refine choF' (by assumption) ?_ | (with_reducible refine altT ?_ ?_; first | omega | (simp only [List.length_append, List.length_cons, List.length_nil, List.length_map, List.length_take, List.length_drop, List.length_replicate, List.length_set]; omega)) | with_reducible refine altF ?_ | with_reducible refine all fun _ => ?_ | with_reducible refine both ?_ ?_ | (with_reducible refine choT ?_ ?_; omega) | (with_reducible refine choF ?_ ?_; omega) | with_reducible refine cho (fun _ => ?_) (fun _ => ?_))
  refine litMem rfl rfl rfl ?_
  repeat' (first | with_reducible apply Stp.go | with_reducible refine imp fun _ => ?_ | (with_reducible refine hyp ?_ ?_; first | assumption | exact leftT_mem (by assumption)) | (with_reducible refine need ?_ ?_; first | trivial | omega | exact ⟨by assumption, by omega⟩ | (simp only [List.length_append, List.length_cons, List.length_nil, List.length_map, List.length_take, List.length_drop, List.length_replicate, List.length_set]; omega)) | (with_reducible refine fact ?_ ?_; first | trivial | exact ⟨rfl, rfl⟩ | kernel_rfl) | with_reducible refine choT (by assumption) ?_ | with_reducible refine choF (by assumption) ?_ | with_reducible refine choF' (by assumption) ?_ | (with_reducible refine altT ?_ ?_; first | omega | (simp only [List.length_append, List.length_cons, List.length_nil, List.length_map, List.length_take, List.length_drop, List.length_replicate, List.length_set]; omega)) | with_reducible refine altF ?_ | with_reducible refine all fun _ => ?_ | with_reducible refine both ?_ ?_ | (with_reducible refine choT ?_ ?_; omega) | (with_reducible refine choF ?_ ?_; omega) | with_reducible refine cho (fun _ => ?_) (fun _ => ?_))
  exact ⟨_, _, _, rfl, Sub.nilCell EnT_ (sz := 4) (by decide) _, _, rfl, rfl⟩
instance {σ : Store} : EC Go.Proofs.Try.prog 15 [] σ True Nat (fun b => ptrAt b 0) (fun b => rmS b (.slice none 0 0) [] 0 (sha []) ++ σ) := ⟨fun _ => (ref10_New_ok.frame σ).mono fun x τ ⟨σ1, e1, _, b, e2, e3⟩ => ⟨b, e2, by rw [e1, e3]⟩⟩
theorem ref10_Link_ok (c : List UInt8) [hc : Len32 c] (e : En) : aPure Go.Proofs.Try.prog 37 [.agg (c.map byt), e.av] (.agg ((linkB c e).map byt)) := by
  refine ACalls.fin (ref10_Link.go ?_)
  unfold ref10_Link.sh
  have h32 := hc.len
  have hb := enB_length e
  have m1 : 32 = c.length ∧ 32 ≤ maxLen := ⟨h32.symm, by decide⟩
  have k32 := sha_length ([2] ++ c ++ enB e)
  repeat' (first | with_reducible apply Stp.go | with_reducible refine imp fun _ => ?_ | (with_reducible refine hyp ?_ ?_; first | assumption | exact leftT_mem (by assumption)) | (with_reducible refine need ?_ ?_; first | trivial | omega | exact ⟨by assumption, by omega⟩ | (simp only [List.length_append, List.length_cons, List.length_nil, List.length_map, List.length_take, List.length_drop, List.length_replicate, List.length_set]; omega)) | (with_reducible refine fact ?_ ?_; first | trivial | exact ⟨rfl, rfl⟩ | kernel_rfl) | with_reducible refine choT (by assumption) ?_ | with_reducible refine choF (by assumption) ?_ | with_reducible refine choF' (by assumption) ?_ | (with_reducible refine altT ?_ ?_; first | omega | (simp only [List.length_append, List.length_cons, List.length_nil, List.length_map, List.length_take, List.length_drop, List.length_replicate, List.length_set]; omega)) | with_reducible refine altF ?_ | with_reducible refine all fun _ => ?_ | with_reducible refine both ?_ ?_ | (with_reducible refine choT ?_ ?_; omega) | (with_reducible refine choF ?_ ?_; omega) | with_reducible refine cho (fun _ => ?_) (fun _ => ?_))
  exact ⟨_, _, _, rfl, Sub.app_nil _, rfl, rfl⟩
instance {c : List UInt8} [hc : Len32 c] {e : En} : PC Go.Proofs.Try.prog 37 [.agg (c.map byt), e.av] True (.agg ((linkB c e).map byt)) := ⟨fun _ => PC.of (ref10_Link_ok c e)⟩
theorem ref10_Put_ok (b : Nat) (v : Value) (L : List En) (s : Int) (c : List UInt8) [hc : Len32 c] (e : En) (hI : rmI L s) : ACalls Go.Proofs.Try.prog 17 [ptrAt b 0, e.av] (rmS b v L s c) fun x σ' => ∃ v', x = .ret (I .i64 (putX (foldE L) s e : Nat)) ∧ σ' = rmS b v' (putR L s e) (putS (foldE L) s e) (putC (foldE L) s c e) := by
  refine ACalls.fin (ref10_Mem_Put.go ?_)
  unfold ref10_Mem_Put.sh
  obtain ⟨hm, _, hL⟩ := hI
  have h64 := hm.2.2
  have hsr := hm.1
  have hF := foldE_length L
  have err : ∀ n, putX (foldE L) s e = n → n ≠ 0 → rmS b v (putR L s e) (putS (foldE L) s e) (putC (foldE L) s c e) = rmS b v L s c := fun n h h0 => by
    unfold putR putS putC
    rw [if_neg (by omega), if_neg (by omega), if_neg (by omega)]
  have okk : ∀ v', putX (foldE L) s e = 0 → rmS b v' (putR L s e) (putS (foldE L) s e) (putC (foldE L) s c e) = rmS b v' (L ++ [e]) e.seq (linkB c e) := fun v' h => by
    unfold putR putS putC
    rw [if_pos h, if_pos h, if_pos h]
  repeat' (first | with_reducible apply Stp.go | with_reducible refine imp fun _ => ?_ | (with_reducible refine hyp ?_ ?_; first | assumption | exact leftT_mem (by assumption)) | (with_reducible refine need ?_ ?_; first | trivial | omega | exact ⟨by assumption, by omega⟩ | (simp only [List.length_append, List.length_cons, List.length_nil, List.length_map, List.length_take, List.length_drop, List.length_replicate, List.length_set]; omega)) | (with_reducible refine fact ?_ ?_; first | trivial | exact ⟨rfl, rfl⟩ | kernel_rfl) | with_reducible refine choT (by assumption) ?_ | with_reducible refine choF (by assumption) ?_ | with_reducible refine choF' (by assumption) ?_ | (with_reducible refine altT ?_ ?_; first | omega | (simp only [List.length_append, List.length_cons, List.length_nil, List.length_map, List.length_take, List.length_drop, List.length_replicate, List.length_set]; omega)) | with_reducible refine altF ?_ | with_reducible refine all fun _ => ?_ | with_reducible refine both ?_ ?_ | (with_reducible refine choT ?_ ?_; omega) | (with_reducible refine choF ?_ ?_; omega) | with_reducible refine cho (fun _ => ?_) (fun _ => ?_))
  · rename_i h1 h2
    have hx : putX (foldE L) s e = 1 := by rw [putX, if_neg (fun h => h.2 h2)]
    exact ⟨_, _, _, rfl, Sub.refl _ _, v, by rw [hx]; rfl, (err 1 hx (by decide)).symm⟩
  · rename_i h1 h2 h3 h4 v'
    have hx : putX (foldE L) s e = 0 := by rw [putX, if_pos ⟨h1, h2⟩, if_pos h4]
    exact ⟨_, _, _, rfl, Sub.refl _ _, v', by rw [hx]; rfl, (okk v' hx).symm⟩
  · rename_i h1 h2 h3 h4
    have hx : putX (foldE L) s e = 3 := by rw [putX, if_pos ⟨h1, h2⟩, if_neg h4, if_pos (by omega)]
    exact ⟨_, _, _, rfl, Sub.refl _ _, v, by rw [hx]; rfl, (err 3 hx (by decide)).symm⟩
  · rename_i h1 h2 h3 v'
    have hx : putX (foldE L) s e = 0 := by
      rw [putX, if_pos ⟨h1, h2⟩]
      split
      · rfl
      · rw [if_neg (by omega)]
    exact ⟨_, _, _, rfl, Sub.refl _ _, v', by rw [hx]; rfl, (okk v' hx).symm⟩
  · rename_i h1
    have hx : putX (foldE L) s e = 1 := by rw [putX, if_neg (fun h => h1 h.1)]
    exact ⟨_, _, _, rfl, Sub.refl _ _, v, by rw [hx]; rfl, (err 1 hx (by decide)).symm⟩
instance {b : Nat} {σ rest : Store} {v : Value} {L : List En} {s : Int} {c : List UInt8} {e : En} [h : RMemAt b σ v L s c rest] [hc : Len32 c] : EC Go.Proofs.Try.prog 17 [ptrAt b 0, e.av] σ (rmI L s) Value (fun _ => I .i64 (putX (foldE L) s e : Nat)) (fun v' => rmS b v' (putR L s e) (putS (foldE L) s e) (putC (foldE L) s c e) ++ rest) := ⟨fun hl => ((ref10_Put_ok b v L s c e hl).part h.perm).mono fun x σ' ⟨σ1, e0, v', e1, e2⟩ => ⟨v', e1, by rw [e0, e2]⟩⟩
theorem ref10_Range_ok (b : Nat) (v : Value) (L : List En) (s : Int) (c lo hi : List UInt8) (hI : rmI L s) : ACalls Go.Proofs.Try.prog 21 [ptrAt b 0, S lo, S hi] (rmS b v L s c) fun x σ' => ∃ v', x = .ret (.own v' (rangeL (foldE L) lo hi).length) ∧ σ' = .row v' EnT_ 4 ((rangeL (foldE L) lo hi).map En.av) 0 :: rmS b v L s c := by
  refine ACalls.fin (ref10_Mem_Range.go ?_)
  unfold ref10_Mem_Range.sh
  obtain ⟨hm, _, hL⟩ := hI
  have h64 := hm.2.2
  have hr := hm.1
  rw [rangeL_filter hr]
  have hFl := foldE_length L
  repeat' (first | with_reducible apply Stp.go | with_reducible refine imp fun _ => ?_ | (with_reducible refine hyp ?_ ?_; first | assumption | exact leftT_mem (by assumption)) | (with_reducible refine need ?_ ?_; first | trivial | omega | exact ⟨by assumption, by omega⟩ | (simp only [List.length_append, List.length_cons, List.length_nil, List.length_map, List.length_take, List.length_drop, List.length_replicate, List.length_set]; omega)) | (with_reducible refine fact ?_ ?_; first | trivial | exact ⟨rfl, rfl⟩ | kernel_rfl) | with_reducible refine choT (by assumption) ?_ | with_reducible refine choF (by assumption) ?_ | with_reducible refine choF' (by assumption) ?_ | (with_reducible refine altT ?_ ?_; first | omega | (simp only [List.length_append, List.length_cons, List.length_nil, List.length_map, List.length_take, List.length_drop, List.length_replicate, List.length_set]; omega)) | with_reducible refine altF ?_ | with_reducible refine all fun _ => ?_ | with_reducible refine both ?_ ?_ | (with_reducible refine choT ?_ ?_; omega) | (with_reducible refine choF ?_ ?_; omega) | with_reducible refine cho (fun _ => ?_) (fun _ => ?_))
  generalize foldE L = F at *
  refine loopI (β := Nat × Value) (fun x => x.1 ≤ F.length) (fun x => [S lo, S hi, .own x.2 ((F.take x.1).filter (inR lo hi)).length, .lst 4 (F.map En.av) .ro, I .i64 (x.1 : Nat)]) (fun x => .row x.2 EnT_ 4 (((F.take x.1).filter (inR lo hi)).map En.av) 0 :: rmS b v L s c) (fun x => F.length - x.1) (0, .slice none 0 0) (Nat.zero_le _)
    (Sub.nil_own EnT_ (sz := 4) (by decide) (rmS b v L s c) [S lo, S hi] [.lst 4 (F.map En.av) .ro, I .i64 ((0 : Nat) : Int)]) ?_
  rintro ⟨i, w⟩ h8
  dsimp only at h8 ⊢
  by_cases hi1 : i < F.length
  · have k3 := filter_snoc (p := inR lo hi) hi1
    have k4 : ((F.take i).filter (inR lo hi)).length ≤ F.length := Nat.le_trans (List.length_filter_le _ _) (by rw [List.length_take]; omega)
    by_cases hin : inR lo hi (F.getD i default) = true
    · rw [if_pos hin] at k3
      have hin2 := hin
      unfold inR at hin2
      rw [Bool.and_eq_true, Bool.or_eq_true, decide_eq_true_eq, Bool.not_eq_true'] at hin2
      obtain ⟨g1, g2⟩ := hin2
      have g1' : ¬ Op.bytesLess (F.getD i default).key lo = true := by rw [show Op.bytesLess (F.getD i default).key lo = false from g1]; decide
      have g2' : hi = [] ∨ Op.bytesLess (F.getD i default).key hi = true := g2
      clear hin g1 g2
      repeat' (first | with_reducible apply Stp.go | with_reducible refine imp fun _ => ?_ | (with_reducible refine hyp ?_ ?_; first | assumption | exact leftT_mem (by assumption)) | (with_reducible refine need ?_ ?_; first | trivial | omega | exact ⟨by assumption, by omega⟩ | (simp only [List.length_append, List.length_cons, List.length_nil, List.length_map, List.length_take, List.length_drop, List.length_replicate, List.length_set]; omega)) | (with_reducible refine fact ?_ ?_; first | trivial | exact ⟨rfl, rfl⟩ | kernel_rfl) | with_reducible refine choT (by assumption) ?_ | with_reducible refine choF (by assumption) ?_ | with_reducible refine choF' (by assumption) ?_ | (with_reducible refine altT ?_ ?_; first | omega | (simp only [List.length_append, List.length_cons, List.length_nil, List.length_map, List.length_take, List.length_drop, List.length_replicate, List.length_set]; omega)) | with_reducible refine altF ?_ | with_reducible refine all fun _ => ?_ | with_reducible refine both ?_ ?_ | (with_reducible refine choT ?_ ?_; omega) | (with_reducible refine choF ?_ ?_; omega) | with_reducible refine cho (fun _ => ?_) (fun _ => ?_))
      all_goals first
        | (rename_i w2
           refine again (i + 1, w2) (by dsimp only; omega) (by dsimp only; omega) ?_
           dsimp only
           rw [k3]
           exact Sub.refl _ _)
        | (exfalso; rcases g2' with h | h <;> contradiction)
        | trace_state
    · rw [if_neg hin, List.append_nil] at k3
      have hin2 := hin
      unfold inR at hin2
      repeat' (first | with_reducible apply Stp.go | with_reducible refine imp fun _ => ?_ | (with_reducible refine hyp ?_ ?_; first | assumption | exact leftT_mem (by assumption)) | (with_reducible refine need ?_ ?_; first | trivial | omega | exact ⟨by assumption, by omega⟩ | (simp only [List.length_append, List.length_cons, List.length_nil, List.length_map, List.length_take, List.length_drop, List.length_replicate, List.length_set]; omega)) | (with_reducible refine fact ?_ ?_; first | trivial | exact ⟨rfl, rfl⟩ | kernel_rfl) | with_reducible refine choT (by assumption) ?_ | with_reducible refine choF (by assumption) ?_ | with_reducible refine choF' (by assumption) ?_ | (with_reducible refine altT ?_ ?_; first | omega | (simp only [List.length_append, List.length_cons, List.length_nil, List.length_map, List.length_take, List.length_drop, List.length_replicate, List.length_set]; omega)) | with_reducible refine altF ?_ | with_reducible refine all fun _ => ?_ | with_reducible refine both ?_ ?_ | (with_reducible refine choT ?_ ?_; omega) | (with_reducible refine choF ?_ ?_; omega) | with_reducible refine cho (fun _ => ?_) (fun _ => ?_))
      all_goals first
        | (refine again (i + 1, w) (by dsimp only; omega) (by dsimp only; omega) ?_
           dsimp only
           rw [k3]
           exact Sub.refl _ _)
        | (exfalso; apply hin2; simp_all [Go.Ab.lt])
        | trace_state
  · have e1 : i = F.length := by omega
    subst e1
    rw [List.take_length]
    repeat' (first | with_reducible apply Stp.go | with_reducible refine imp fun _ => ?_ | (with_reducible refine hyp ?_ ?_; first | assumption | exact leftT_mem (by assumption)) | (with_reducible refine need ?_ ?_; first | trivial | omega | exact ⟨by assumption, by omega⟩ | (simp only [List.length_append, List.length_cons, List.length_nil, List.length_map, List.length_take, List.length_drop, List.length_replicate, List.length_set]; omega)) | (with_reducible refine fact ?_ ?_; first | trivial | exact ⟨rfl, rfl⟩ | kernel_rfl) | with_reducible refine choT (by assumption) ?_ | with_reducible refine choF (by assumption) ?_ | with_reducible refine choF' (by assumption) ?_ | (with_reducible refine altT ?_ ?_; first | omega | (simp only [List.length_append, List.length_cons, List.length_nil, List.length_map, List.length_take, List.length_drop, List.length_replicate, List.length_set]; omega)) | with_reducible refine altF ?_ | with_reducible refine all fun _ => ?_ | with_reducible refine both ?_ ?_ | (with_reducible refine choT ?_ ?_; omega) | (with_reducible refine choF ?_ ?_; omega) | with_reducible refine cho (fun _ => ?_) (fun _ => ?_))
    exact ⟨_, _, _, rfl, Sub.refl _ _, w, rfl, rfl⟩
instance {b : Nat} {σ rest : Store} {v : Value} {L : List En} {s : Int} {c lo hi : List UInt8} [h : RMemAt b σ v L s c rest] : EC Go.Proofs.Try.prog 21 [ptrAt b 0, S lo, S hi] σ (rmI L s) Value (fun v' => .own v' (rangeL (foldE L) lo hi).length) (fun v' => .row v' EnT_ 4 ((rangeL (foldE L) lo hi).map En.av) 0 :: σ) := ⟨fun hl => by
  refine ((ref10_Range_ok b v L s c lo hi hl).part h.perm).sub ?_
  rintro x σ' ⟨σ1, rfl, v', rfl, rfl⟩
  exact ⟨_, _, _, rfl, Sub.perm (List.Perm.cons _ h.perm.symm) _, v', rfl, rfl⟩⟩
theorem lastK_drop {L : List En} {k : List UInt8} {q : Nat} (hq : q < L.length) (h : ∀ x ∈ L.drop (q + 1), ¬ x.key = k) : (L.getD q default).key = k → lastK L k = some (L.getD q default) := by
  intro hk
  unfold lastK
  have e : L = L.take q ++ L.getD q default :: L.drop (q + 1) := by
    conv => lhs; rw [← List.take_append_drop q L, List.drop_eq_getElem_cons hq]
    rw [List.getD_eq_getElem?_getD, List.getElem?_eq_getElem hq]; rfl
  generalize L.getD q default = y at *
  rw [e, List.reverse_append, List.reverse_cons, List.find?_append, List.find?_append, List.find?_eq_none.2 (fun x hx => by simpa using h x (List.mem_reverse.1 hx))]
  simp [hk]
theorem ref10_Get_ok (b : Nat) (v : Value) (L : List En) (s : Int) (c k : List UInt8) (hI : rmI L s) : ACalls Go.Proofs.Try.prog 23 [ptrAt b 0, S k] (rmS b v L s c) fun x σ' => x = .ret (.tuple [(keyV (foldE L) k).av, B (hasK (foldE L) k)]) ∧ σ' = rmS b v L s c := by
  refine ACalls.fin (ref10_Mem_Get.go ?_)
  unfold ref10_Mem_Get.sh
  obtain ⟨hm, hg, hL⟩ := hI
  obtain ⟨g1, g2⟩ := keyV_get hm.1 k
  rw [hg] at g1 g2
  rw [g1, g2]
  have z0 : (⟨[], [], false, 0⟩ : En) = En.zero := rfl
  repeat' (first | with_reducible apply Stp.go | with_reducible refine imp fun _ => ?_ | (with_reducible refine hyp ?_ ?_; first | assumption | exact leftT_mem (by assumption)) | (with_reducible refine need ?_ ?_; first | trivial | omega | exact ⟨by assumption, by omega⟩ | (simp only [List.length_append, List.length_cons, List.length_nil, List.length_map, List.length_take, List.length_drop, List.length_replicate, List.length_set]; omega)) | (with_reducible refine fact ?_ ?_; first | trivial | exact ⟨rfl, rfl⟩ | kernel_rfl) | with_reducible refine choT (by assumption) ?_ | with_reducible refine choF (by assumption) ?_ | with_reducible refine choF' (by assumption) ?_ | (with_reducible refine altT ?_ ?_; first | omega | (simp only [List.length_append, List.length_cons, List.length_nil, List.length_map, List.length_take, List.length_drop, List.length_replicate, List.length_set]; omega)) | with_reducible refine altF ?_ | with_reducible refine all fun _ => ?_ | with_reducible refine both ?_ ?_ | (with_reducible refine choT ?_ ?_; omega) | (with_reducible refine choF ?_ ?_; omega) | with_reducible refine cho (fun _ => ?_) (fun _ => ?_))
  all_goals
    rename_i vb
    refine loopI (β := Nat) (fun x => x ≤ L.length ∧ ∀ y ∈ L.drop x, ¬ y.key = k) (fun x => [ptrAt b 0, S k, ptrAt vb 0, I .i64 ((x : Int) - 1)]) (fun _ => .var vb 29 En.zero.cs :: rmS b v L s c) (fun x => x) L.length ⟨Nat.le_refl _, by simp⟩ ?_ ?_
    · first
        | exact Sub.refl _ _
        | (rw [show ((L.length - 1 : Nat) : Int) = (L.length : Int) - 1 by omega]; exact Sub.refl _ _)
    rintro x ⟨hx, hno⟩
    cases x with
    | zero =>
      have hn : lastK L k = none := by
        unfold lastK
        rw [List.find?_eq_none]
        intro y hy
        simpa using hno y (by simpa using hy)
      rw [hn]
      repeat' (first | with_reducible apply Stp.go | with_reducible refine imp fun _ => ?_ | (with_reducible refine hyp ?_ ?_; first | assumption | exact leftT_mem (by assumption)) | (with_reducible refine need ?_ ?_; first | trivial | omega | exact ⟨by assumption, by omega⟩ | (simp only [List.length_append, List.length_cons, List.length_nil, List.length_map, List.length_take, List.length_drop, List.length_replicate, List.length_set]; omega)) | (with_reducible refine fact ?_ ?_; first | trivial | exact ⟨rfl, rfl⟩ | kernel_rfl) | with_reducible refine choT (by assumption) ?_ | with_reducible refine choF (by assumption) ?_ | with_reducible refine choF' (by assumption) ?_ | (with_reducible refine altT ?_ ?_; first | omega | (simp only [List.length_append, List.length_cons, List.length_nil, List.length_map, List.length_take, List.length_drop, List.length_replicate, List.length_set]; omega)) | with_reducible refine altF ?_ | with_reducible refine all fun _ => ?_ | with_reducible refine both ?_ ?_ | (with_reducible refine choT ?_ ?_; omega) | (with_reducible refine choF ?_ ?_; omega) | with_reducible refine cho (fun _ => ?_) (fun _ => ?_))
      exact ⟨_, _, _, rfl, subS (τ := rmS b v L s c) _, rfl, rfl⟩
    | succ q =>
      have hq : q < L.length := by omega
      have e : (((q + 1 : Nat) : Int)) - 1 = (q : Nat) := by omega
      rw [e]
      repeat' (first | with_reducible apply Stp.go | with_reducible refine imp fun _ => ?_ | (with_reducible refine hyp ?_ ?_; first | assumption | exact leftT_mem (by assumption)) | (with_reducible refine need ?_ ?_; first | trivial | omega | exact ⟨by assumption, by omega⟩ | (simp only [List.length_append, List.length_cons, List.length_nil, List.length_map, List.length_take, List.length_drop, List.length_replicate, List.length_set]; omega)) | (with_reducible refine fact ?_ ?_; first | trivial | exact ⟨rfl, rfl⟩ | kernel_rfl) | with_reducible refine choT (by assumption) ?_ | with_reducible refine choF (by assumption) ?_ | with_reducible refine choF' (by assumption) ?_ | (with_reducible refine altT ?_ ?_; first | omega | (simp only [List.length_append, List.length_cons, List.length_nil, List.length_map, List.length_take, List.length_drop, List.length_replicate, List.length_set]; omega)) | with_reducible refine altF ?_ | with_reducible refine all fun _ => ?_ | with_reducible refine both ?_ ?_ | (with_reducible refine choT ?_ ?_; omega) | (with_reducible refine choF ?_ ?_; omega) | with_reducible refine cho (fun _ => ?_) (fun _ => ?_))
      · rename_i hk
        rw [lastK_drop hq hno hk]
        exact ⟨_, _, _, rfl, subS (τ := rmS b v L s c) _, rfl, rfl⟩
      · rename_i hk
        refine again q (by omega) ⟨by omega, fun y hy => ?_⟩ ?_
        · rw [List.drop_eq_getElem_cons hq] at hy
          rcases List.mem_cons.1 hy with rfl | hy
          · rw [List.getD_eq_getElem?_getD, List.getElem?_eq_getElem hq] at hk; exact hk
          · exact hno y hy
        · exact Sub.refl _ _
instance {b : Nat} {σ rest : Store} {v : Value} {L : List En} {s : Int} {c k : List UInt8} [h : RMemAt b σ v L s c rest] : EC Go.Proofs.Try.prog 23 [ptrAt b 0, S k] σ (rmI L s) Unit (fun _ => .tuple [(keyV (foldE L) k).av, B (hasK (foldE L) k)]) (fun _ => σ) := ⟨fun hl => ((ref10_Get_ok b v L s c k hl).same h.perm).mono fun x σ' ⟨e1, e2⟩ => ⟨(), e1, e2⟩⟩
theorem ref10_Clear_ok (b : Nat) (v : Value) (l : List En) (s : Int) (c : List UInt8) [hc : Len32 c] : ACalls Go.Proofs.Try.prog 18 [ptrAt b 0] (rmS b v l s c) fun x σ' => x = .ret (.tuple []) ∧ σ' = rmS b (.slice none 0 0) [] s (sha []) := by
  refine ACalls.fin (ref10_Mem_Clear.go ?_)
  unfold ref10_Mem_Clear.sh
  repeat' (first | with_reducible apply Stp.go | with_reducible refine imp fun _ => ?_ | (with_reducible refine hyp ?_ ?_; first | assumption | exact leftT_mem (by assumption)) | (with_reducible refine need ?_ ?_; first | trivial | omega | exact ⟨by assumption, by omega⟩ | (simp only [List.length_append, List.length_cons, List.length_nil, List.length_map, List.length_take, List.length_drop, List.length_replicate, List.length_set]; omega)) | (with_reducible refine fact ?_ ?_; first | trivial | exact ⟨rfl, rfl⟩ | kernel_rfl) | with_reducible refine choT (by assumption) ?_ | with_reducible refine choF (by assumption) ?_ | with_reducible refine choF' (by assumption) ?_ | (with_reducible refine altT ?_ ?_; first | omega | (simp only [List.length_append, List.length_cons, List.length_nil, List.length_map, List.length_take, List.length_drop, List.length_replicate, List.length_set]; omega)) | with_reducible refine altF ?_ | with_reducible refine all fun _ => ?_ | with_reducible refine both ?_ ?_ | (with_reducible refine choT ?_ ?_; omega) | (with_reducible refine choF ?_ ?_; omega) | with_reducible refine cho (fun _ => ?_) (fun _ => ?_))
  refine ⟨_, _, _, rfl, Sub.trans (subS (τ := [.var b RMT (.val (.slice none 0 0) :: I .i64 s :: (sha []).map byt)]) _) (Sub.nilCell EnT_ (sz := 4) (by decide) _), rfl, rfl⟩
instance {b : Nat} {σ rest : Store} {v : Value} {l : List En} {s : Int} {c : List UInt8} [h : RMemAt b σ v l s c rest] [hc : Len32 c] : EC Go.Proofs.Try.prog 18 [ptrAt b 0] σ True Unit (fun _ => .tuple []) (fun _ => rmS b (.slice none 0 0) [] s (sha []) ++ rest) := ⟨fun _ => ((ref10_Clear_ok b v l s c).part h.perm).mono fun x σ' ⟨σ1, e0, e1, e2⟩ => ⟨(), e1, by rw [e0, e2]⟩⟩
end Go.Ab
