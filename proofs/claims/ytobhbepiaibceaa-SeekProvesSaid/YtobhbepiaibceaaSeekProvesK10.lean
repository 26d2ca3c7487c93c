/- The texts that this claim needs, part 10: a logic over abstract values, its steps, what the functions do. No condition of its own. -/
import Derived.ChangeKeysEq
import Derived.Test.YtobhbepiaibceaaSeekProvesK9
/- Arrays of bytes held against one another. -/
set_option linter.unusedVariables false
set_option linter.unusedSimpArgs false
namespace Go.Ab
abbrev bytv (b : UInt8) : Value := .int .u8 b.toNat
theorem run_items {P : Program} {e : TypeId} (he : P.underlying e = some (.int .u8)) (c c' : List UInt8) (d : Nat) (w : World) : ∀ is : List Nat, (∀ i ∈ is, i < c.length ∧ i < c'.length) →
    (Op.eqItems (d + 1) e 1 (c.map bytv).toArray (c'.map bytv).toArray is).run P w = .ok (is.all fun i => decide (c.getD i 0 = c'.getD i 0)) w
  | [], _ => by simp [Op.eqItems]
  | i :: is, h => by
    obtain ⟨h1, h2⟩ := h i List.mem_cons_self
    have ih := run_items he c c' d w is fun j hj => h j (List.mem_cons_of_mem _ hj)
    have p1 : (part e (c.map bytv).toArray (i * 1)).run P w = .ok (bytv (c.getD i 0)) w := part_plain he rfl (by simp [List.getD_eq_getElem?_getD, h1]) w
    have p2 : (part e (c'.map bytv).toArray (i * 1)).run P w = .ok (bytv (c'.getD i 0)) w := part_plain he rfl (by simp [List.getD_eq_getElem?_getD, h2]) w
    have p3 : (Op.equalIn (d + 1) e (bytv (c.getD i 0)) (bytv (c'.getD i 0))).run P w = .ok (decide (c.getD i 0 = c'.getD i 0)) w := by
      rw [run_equalIn_int w d e .u8 .u8 _ _ he]
      congr 1
      rw [Bool.eq_iff_iff, beq_iff_eq, decide_eq_true_eq]
      constructor
      · intro h; exact UInt8.toNat_inj.1 (Int.ofNat.inj h)
      · intro h; rw [h]
    simp only [Op.eqItems, Sem.run_bind, p1, p2, p3, Result.andThen_ok, List.all_cons]
    by_cases hh : c.getD i 0 = c'.getD i 0
    · rw [decide_eq_true hh]; simpa using ih
    · rw [decide_eq_false hh]; simp
theorem all_same {c c' : List UInt8} {n : Nat} (h : c.length = n) (h' : c'.length = n) : ((List.range n).all fun i => decide (c.getD i 0 = c'.getD i 0)) = decide (c = c') := by
  rw [Bool.eq_iff_iff, List.all_eq_true, decide_eq_true_eq]
  constructor
  · intro hh
    apply List.ext_getElem (by omega)
    intro i h1 h2
    have := hh i (List.mem_range.2 (by omega))
    simpa [List.getD_eq_getElem?_getD, h1, h2] using this
  · rintro rfl i _; simp
class ArrB (P : Program) (t : TypeId) (n : outParam Nat) : Prop where
  h : ∃ e, P.underlying t = some (.array n e) ∧ P.underlying e = some (.int .u8) ∧ (P.info? e).isSome = true ∧ P.cellsOf e = 1 ∧ P.eqGuardType P.depth t = false
theorem allVals_byt (c : List UInt8) : allVals (c.map byt) = some (c.map bytv) := by
  induction c with
  | nil => rfl
  | cons a c ih => simp [allVals, ih, byt]
theorem arr_plain (c : List UInt8) : plainV (.agg (c.map byt)) = some (.agg (c.map bytv).toArray) := by
  simp [plainV, allVals_byt]
section arr
variable {P : Program} {t : TypeId} {n : Nat} {c c' : List UInt8} {K : AV → Prop}
theorem run_arr [h : ArrB P t n] (h1 : c.length = n) (h2 : c'.length = n) (w : World) : (Op.equalIn 10000 t (.agg (c.map bytv).toArray) (.agg (c'.map bytv).toArray)).run P w = .ok (decide (c = c')) w := by
  obtain ⟨e, g1, g2, g3, g4, g5⟩ := h.h
  obtain ⟨i, g3⟩ := Option.isSome_iff_exists.1 g3
  show (Op.equalIn (9998 + 1 + 1) t _ _).run P w = _
  rw [run_equalIn_array w (9998 + 1) _ _ g1 g3, g4, run_items g2 c c' 9998 w _ (fun i hi => by have := List.mem_range.1 hi; omega), all_same h1 h2]
instance eqArr [h : ArrB P t n] : Stp (Do (aBin P .eql t (.agg (c.map byt)) (.agg (c'.map byt))) K) (Need (c.length = n ∧ c'.length = n) (K (.val (.bool (decide (c = c')))))) := ⟨fun ⟨⟨h1, h2⟩, hK⟩ => by
  refine ⟨_, (aBin_plain (arr_plain c) (arr_plain c') fun xo yo w => ?_).2 rfl, hK⟩
  obtain ⟨e, g1, g2, g3, g4, g5⟩ := h.h
  simp only [Sem.run_bind, run_eqGuard_agg w .eql t xo yo _ _ g5, Result.andThen_ok, run_eql_struct, run_arr (t := t) h1 h2 w, Result.andThen_ok]⟩
instance neqArr [h : ArrB P t n] : Stp (Do (aBin P .neq t (.agg (c.map byt)) (.agg (c'.map byt))) K) (Need (c.length = n ∧ c'.length = n) (K (.val (.bool (decide (¬ c = c')))))) := ⟨fun ⟨⟨h1, h2⟩, hK⟩ => by
  refine ⟨_, (aBin_plain (arr_plain c) (arr_plain c') fun xo yo w => ?_).2 rfl, hK⟩
  obtain ⟨e, g1, g2, g3, g4, g5⟩ := h.h
  simp only [Sem.run_bind, run_eqGuard_agg w .neq t xo yo _ _ g5, Result.andThen_ok, run_neq_struct, run_arr (t := t) h1 h2 w, Result.andThen_ok]
  congr 2
  by_cases he : c = c' <;> simp [he]⟩
end arr
instance : ArrB Go.Proofs.Try.prog 46 32 := ⟨⟨5, by kernel_rfl, by kernel_rfl, by kernel_rfl, by kernel_rfl, by kernel_rfl⟩⟩
end Go.Ab

/- A leaf held against a root. -/
set_option linter.unusedVariables false
set_option linter.unusedSimpArgs false
namespace Go.Ab
instance (priority := 75) ldFD {l : List UInt8} {K : AV → Prop} [hl : Len32 l] : Stp (Do (loadF true 32 (.rptr (l.map byt))) K) (K (dgA l)) := ⟨fun hK => ⟨_, ⟨by decide, fun h => by (cases h), by simp [hl.len], by
  rw [List.take_of_length_le (by simp [hl.len])]; rfl⟩, hK⟩⟩
def tree_Tree_swapped.mark : Mark := ⟨fun t => false, fun t => false, fun t => Nat.beq t 3 || Nat.beq t 4 || Nat.beq t 5, fun t => Nat.beq t 7 || Nat.beq t 8 || Nat.beq t 9, fun t => false⟩
def tree_Tree_swapped.ann : Ann := ⟨fun n => [], fun n => none, fun n => none⟩
/-- '(marlstone/tree.Tree).swapped' -/
def tree_Tree_swapped.sh (a0 a1 a2 : AV) (σ : Store) (Q : AEnd → Store → Prop) : Prop :=
  Do (aFreeze ((a0 : AV)).cells) fun t3 =>
  Do (aFreeze ((a1 : AV)).cells) fun t4 =>
  Do (aFreeze ((a2 : AV)).cells) fun t5 =>
  aNewVar 46 [.val (.int .u8 0), .val (.int .u8 0), .val (.int .u8 0), .val (.int .u8 0), .val (.int .u8 0), .val (.int .u8 0), .val (.int .u8 0), .val (.int .u8 0), .val (.int .u8 0), .val (.int .u8 0), .val (.int .u8 0), .val (.int .u8 0), .val (.int .u8 0), .val (.int .u8 0), .val (.int .u8 0), .val (.int .u8 0), .val (.int .u8 0), .val (.int .u8 0), .val (.int .u8 0), .val (.int .u8 0), .val (.int .u8 0), .val (.int .u8 0), .val (.int .u8 0), .val (.int .u8 0), .val (.int .u8 0), .val (.int .u8 0), .val (.int .u8 0), .val (.int .u8 0), .val (.int .u8 0), .val (.int .u8 0), .val (.int .u8 0), .val (.int .u8 0)] σ fun t6 σ =>
  Do (loadF true 1 t3) fun t7 =>
  Do (loadF true 32 t5) fun t8 =>
  Do (loadF true 32 t4) fun t9 =>
  aCall Go.Proofs.Try.prog 71 [t7, t8, t9] σ (fun t10 σ_1 =>
  storeA 32 t6 t10 σ_1 fun u σ_2 =>
  Do (loadA true 32 t6 σ_2) fun r6 => Q (.ret r6) σ_2) (fun e σ_3 => Q (.pan e) σ_3)
theorem tree_Tree_swapped.eq (a0 a1 a2 : AV) (σ : Store) (Q : AEnd → Store → Prop) : vc (semOf Go.Proofs.Try.prog tree_Tree_swapped.mark) Go.Proofs.Try.f103.ntmps tree_Tree_swapped.ann (bodyOf Go.Proofs.Try.f103) (endK [.cell 6 true 32] Q) (argFr [a0, a1, a2]) σ = tree_Tree_swapped.sh a0 a1 a2 σ Q := by kernel_rfl
theorem tree_Tree_swapped.go {a0 a1 a2 : AV} {σ : Store} {Q : AEnd → Store → Prop} (h : tree_Tree_swapped.sh a0 a1 a2 σ Q) : ACalls Go.Proofs.Try.prog 103 [a0, a1, a2] σ Q :=
  acalls_of_eq [.cell 6 true 32] Go.Proofs.Try.func103 (by kernel_rfl) (by kernel_rfl) (by kernel_rfl) (by kernel_rfl) (tree_Tree_swapped.eq a0 a1 a2 σ Q) h
def tree_Tree_Check.mark : Mark := ⟨fun t => false, fun t => false, fun t => Nat.beq t 6 || Nat.beq t 7, fun t => Nat.beq t 50 || Nat.beq t 59 || Nat.beq t 68 || Nat.beq t 74, fun t => false⟩
def tree_Tree_Check.ann : Ann := ⟨fun n => bif Nat.beq n 4 then [2, 3, 4, 5, 6, 7, 13] else bif Nat.beq n 13 then [6, 7, 13, 15, 53, 54, 55] else [], fun n => none, fun n => none⟩
/-- '(marlstone/tree.Tree).Check' -/
def tree_Tree_Check.sh (a0 a1 a2 a3 a4 a5 : AV) (σ : Store) (Q : AEnd → Store → Prop) : Prop :=
  Do (aFreeze ((a0 : AV)).cells) fun t6 =>
  Do (aFreeze ((a1 : AV)).cells) fun t7 =>
  Do (aBin Go.Proofs.Try.prog .lss 3 a3 (.val (.int .i64 0))) fun t19 =>
  Do (aGuard t19 false (aIs a3)) fun t21 =>
  Do (aGuard t19 false (aIs a2)) fun t22 =>
  Do (aGuard t19 false (aBin Go.Proofs.Try.prog .geq 3 t21 t22)) fun t23 =>
  Do (aPick t19 (.val (.bool true)) t23) fun t24 =>
  aCond t24
    (Q (.ret (.val (.bool false))) σ)
    (aLoop (fun go vs σ =>
    At vs 0 fun s2 => At vs 1 fun s3 => At vs 2 fun s4 => At vs 3 fun s5 => At vs 4 fun s6 => At vs 5 fun s7 => At vs 6 fun s13 => Do (aBin Go.Proofs.Try.prog .gtr 3 s2 (.val (.int .i64 1))) fun t26 =>
    aCond t26
      (aCall Go.Proofs.Try.prog 100 [s2] σ (fun t28 σ_1 =>
    Do (aBin Go.Proofs.Try.prog .lss 3 s3 t28) fun t31 =>
    aCond t31
      (Do (aSlLit (mkE [.val .nilFunc]) 1 1 [(0, (.val (.func (.func 71) #[] #[])))]) fun t33 =>
      aAppend 145 1 8 s13 t33 σ_1 (subK fun t34 σ_2 =>
      go [t28, s3, s4, s5, s6, s7, t34] σ_2))
      (Do (aSlLit (mkE [.val .nilFunc]) 1 1 [(0, (.val (.func (.func 103) #[] #[])))]) fun t37 =>
      aAppend 145 1 8 s13 t37 σ_1 (subK fun t38 σ_3 =>
      Do (aBin Go.Proofs.Try.prog .sub 3 s2 t28) fun t41 =>
      Do (aBin Go.Proofs.Try.prog .sub 3 s3 t28) fun t44 =>
      go [t41, t44, s4, s5, s6, s7, t38] σ_3))) (fun e σ_4 => Q (.pan e) σ_4))
      (Do (aBuiltin Go.Proofs.Try.prog .len #[28] [s5]) fun t46 =>
  Do (aBuiltin Go.Proofs.Try.prog .len #[144] [s13]) fun t48 =>
  Do (aBin Go.Proofs.Try.prog .neq 3 t46 t48) fun t49 =>
  aCond t49
    (Q (.ret (.val (.bool false))) σ)
    (Do (loadF true 1 s6) fun t50 =>
  aCall Go.Proofs.Try.prog 66 [t50, s4] σ (fun t52 σ_5 =>
  aNewVar 46 [.val (.int .u8 0), .val (.int .u8 0), .val (.int .u8 0), .val (.int .u8 0), .val (.int .u8 0), .val (.int .u8 0), .val (.int .u8 0), .val (.int .u8 0), .val (.int .u8 0), .val (.int .u8 0), .val (.int .u8 0), .val (.int .u8 0), .val (.int .u8 0), .val (.int .u8 0), .val (.int .u8 0), .val (.int .u8 0), .val (.int .u8 0), .val (.int .u8 0), .val (.int .u8 0), .val (.int .u8 0), .val (.int .u8 0), .val (.int .u8 0), .val (.int .u8 0), .val (.int .u8 0), .val (.int .u8 0), .val (.int .u8 0), .val (.int .u8 0), .val (.int .u8 0), .val (.int .u8 0), .val (.int .u8 0), .val (.int .u8 0), .val (.int .u8 0)] σ_5 fun t15 σ_6 =>
  storeA 32 t15 t52 σ_6 fun u σ_7 =>
  Do (aBuiltin Go.Proofs.Try.prog .len #[28] [s5]) fun t54 =>
  aLoop (fun go_1 vs_1 σ_8 =>
    At vs_1 0 fun s6_1 => At vs_1 1 fun s7_1 => At vs_1 2 fun s13_1 => At vs_1 3 fun s15 => At vs_1 4 fun s53 => At vs_1 5 fun s54 => At vs_1 6 fun s55 => Do (aBin Go.Proofs.Try.prog .lss 3 s55 s54) fun t56 =>
    aCond t56
      (Do (aIndexAddr .slice 32 s53 s55) fun t58 =>
    Do (loadF true 32 t58) fun t59 =>
    aNewVar 46 [.val (.int .u8 0), .val (.int .u8 0), .val (.int .u8 0), .val (.int .u8 0), .val (.int .u8 0), .val (.int .u8 0), .val (.int .u8 0), .val (.int .u8 0), .val (.int .u8 0), .val (.int .u8 0), .val (.int .u8 0), .val (.int .u8 0), .val (.int .u8 0), .val (.int .u8 0), .val (.int .u8 0), .val (.int .u8 0), .val (.int .u8 0), .val (.int .u8 0), .val (.int .u8 0), .val (.int .u8 0), .val (.int .u8 0), .val (.int .u8 0), .val (.int .u8 0), .val (.int .u8 0), .val (.int .u8 0), .val (.int .u8 0), .val (.int .u8 0), .val (.int .u8 0), .val (.int .u8 0), .val (.int .u8 0), .val (.int .u8 0), .val (.int .u8 0)] σ_8 fun t17 σ_9 =>
    storeA 32 t17 t59 σ_9 fun u_1 σ_10 =>
    Do (aBuiltin Go.Proofs.Try.prog .len #[144] [s13_1]) fun t62 =>
    Do (aBin Go.Proofs.Try.prog .sub 3 t62 (.val (.int .i64 1))) fun t63 =>
    Do (aBin Go.Proofs.Try.prog .sub 3 t63 s55) fun t65 =>
    Do (aIndexAddr .slice 1 s13_1 t65) fun t66 =>
    Do (loadA false 1 t66 σ_10) fun t67 =>
    Do (loadF true 1 s6_1) fun t68 =>
    Do (loadA true 32 s15 σ_10) fun t69 =>
    Do (loadA true 32 t17 σ_10) fun t70 =>
    aCallV Go.Proofs.Try.prog t67 [t68, t69, t70] σ_10 (fun t71 σ_11 =>
    storeA 32 s15 t71 σ_11 fun u_2 σ_12 =>
    Do (aBin Go.Proofs.Try.prog .add 3 s55 (.val (.int .i64 1))) fun t72 =>
    go_1 [s6_1, s7_1, s13_1, s15, s53, s54, t72] σ_12) (fun e_1 σ_13 => Q (.pan e_1) σ_13))
      (Do (loadA true 32 s15 σ_8) fun t73 =>
  Do (loadF true 32 s7_1) fun t74 =>
  Do (aBin Go.Proofs.Try.prog .eql 46 t73 t74) fun t75 =>
  Q (.ret t75) σ_8))
    [s6, s7, s13, t15, s5, t54, (.val (.int .i64 0))] σ_7) (fun e_2 σ_14 => Q (.pan e_2) σ_14))))
    [a2, a3, a4, a5, t6, t7, (.val (.slice none 0 0))] σ)
theorem tree_Tree_Check.eq (a0 a1 a2 a3 a4 a5 : AV) (σ : Store) (Q : AEnd → Store → Prop) : vc (semOf Go.Proofs.Try.prog tree_Tree_Check.mark) Go.Proofs.Try.f64.ntmps tree_Tree_Check.ann (bodyOf Go.Proofs.Try.f64) (endK [.tmp 12] Q) (argFr [a0, a1, a2, a3, a4, a5]) σ = tree_Tree_Check.sh a0 a1 a2 a3 a4 a5 σ Q := by kernel_rfl
theorem tree_Tree_Check.go {a0 a1 a2 a3 a4 a5 : AV} {σ : Store} {Q : AEnd → Store → Prop} (h : tree_Tree_Check.sh a0 a1 a2 a3 a4 a5 σ Q) : ACalls Go.Proofs.Try.prog 64 [a0, a1, a2, a3, a4, a5] σ Q :=
  acalls_of_eq [.tmp 12] Go.Proofs.Try.func64 (by kernel_rfl) (by kernel_rfl) (by kernel_rfl) (by kernel_rfl) (tree_Tree_Check.eq a0 a1 a2 a3 a4 a5 σ Q) h
theorem swapped_ok (bits : Int) (r l : List UInt8) [hl : Len32 l] [hr : Len32 r] : aPure Go.Proofs.Try.prog 103 [trA bits, dgA r, dgA l] (dgA (nodeD bits l r)) := by
  refine ACalls.fin (tree_Tree_swapped.go ?_)
  unfold tree_Tree_swapped.sh
  have h1 := hl.len
  have h2 := hr.len
  have h32 : (nodeD bits l r).length = 32 := Len32.len
  repeat' (first | with_reducible apply Stp.go | with_reducible refine imp fun _ => ?_ | (with_reducible refine hyp ?_ ?_; first | assumption | exact leftT_mem (by assumption)) | (with_reducible refine need ?_ ?_; first | trivial | omega | exact ⟨by assumption, by omega⟩ | (simp only [List.length_append, List.length_cons, List.length_nil, List.length_map, List.length_take, List.length_drop, List.length_replicate, List.length_set]; omega)) | (with_reducible refine fact ?_ ?_; first | trivial | exact ⟨rfl, rfl⟩ | kernel_rfl) | with_reducible refine choT (by assumption) ?_ | with_reducible refine choF (by assumption) ?_ | with_reducible refine choF' (by assumption) ?_ | (with_reducible refine altT ?_ ?_; first | omega | (simp only [List.length_append, List.length_cons, List.length_nil, List.length_map, List.length_take, List.length_drop, List.length_replicate, List.length_set]; omega)) | with_reducible refine altF ?_ | with_reducible refine all fun _ => ?_ | with_reducible refine both ?_ ?_ | (with_reducible refine choT ?_ ?_; omega) | (with_reducible refine choF ?_ ?_; omega) | with_reducible refine cho (fun _ => ?_) (fun _ => ?_))
  exact ⟨_, _, _, rfl, Sub.app_nil _, rfl, rfl⟩
instance {l r : List UInt8} {b : Int} [hl : Len32 l] [hr : Len32 r] : PC Go.Proofs.Try.prog 103 [trA b, dgA r, dgA l] True (dgA (nodeD b l r)) := ⟨fun _ => PC.of (swapped_ok b r l)⟩
/-- The way down to a leaf: to the left, or not. -/
def upL (cnt i : Nat) : List Bool :=
  if h : cnt ≤ 1 then []
  else if i < halfN cnt then true :: upL (halfN cnt) i
  else false :: upL (cnt - halfN cnt) (i - halfN cnt)
termination_by cnt
decreasing_by
  · have := halfN_lt (n := cnt) (by omega); omega
  · have := halfN_lt (n := cnt) (by omega); omega
/-- The node of what one has and what stands beside it. -/
def stepD (b : Int) (u : Bool) (d x : D32) : D32 := if u = true then ⟨nodeD b d.val x.val, Len32.len⟩ else ⟨nodeD b x.val d.val, Len32.len⟩
/-- The way up. -/
def climb (b : Int) : List Bool → List D32 → D32 → D32
  | u :: us, x :: xs, d => climb b us xs (stepD b u d x)
  | _, _, d => d
theorem climb_step (b : Int) {U : List Bool} {path : List D32} (d : D32) {q : Nat} (hp : path.length = U.length) (hq : q < path.length) : climb b (U.reverse.drop q) (path.drop q) d = climb b (U.reverse.drop (q + 1)) (path.drop (q + 1)) (stepD b (U.getD (U.length - 1 - q) default) d (path.getD q default)) := by
  have h1 : q < U.reverse.length := by rw [List.length_reverse]; omega
  rw [List.drop_eq_getElem_cons h1, List.drop_eq_getElem_cons hq]
  show climb b _ _ (stepD b _ d _) = _
  have e1 : U.reverse[q] = U.getD (U.length - 1 - q) default := by
    rw [List.getElem_reverse, List.getD_eq_getElem?_getD, List.getElem?_eq_getElem (by omega)]; rfl
  have e2 : path[q] = path.getD q default := by rw [List.getD_eq_getElem?_getD, List.getElem?_eq_getElem hq]; rfl
  rw [e1, e2]
def fnU (u : Bool) : AV := .val (.func (.func (bif u then 71 else 103)) #[] #[])
instance : Enc fnU 1 := ⟨fun u => ⟨rfl, fun c hc => by rw [List.mem_singleton.1 (show c ∈ [fnU u] from hc)]; rfl⟩, by decide, fun _ => rfl⟩
instance : ElemF [.val .nilFunc] Bool fnU := ⟨trivial⟩
instance : AsF fnU (.val (.func (.func 71) #[] #[])) true := ⟨rfl⟩
instance : AsF fnU (.val (.func (.func 103) #[] #[])) false := ⟨rfl⟩
instance (u : Bool) : Cells (fnU u) [fnU u] := ⟨rfl⟩
theorem upL_log : ∀ (m cnt i : Nat), cnt ≤ 2 ^ m → (upL cnt i).length ≤ m := by
  intro m
  induction m with
  | zero =>
    intro cnt i h
    unfold upL
    rw [dif_pos (by simpa using h)]
    simp
  | succ m ih =>
    intro cnt i h
    unfold upL
    split
    · simp
    · rename_i h1
      obtain ⟨h2, h3⟩ := halfN_log (n := cnt) (by omega) h
      split
      · have := ih _ i h2
        simp only [List.length_cons]; omega
      · have := ih _ (i - halfN cnt) h3
        simp only [List.length_cons]; omega
theorem upL_63 {cnt : Nat} (h : cnt ≤ 9223372036854775807) (i : Nat) : (upL cnt i).length ≤ 63 := upL_log 63 cnt i (by simpa using Nat.le_of_lt (Nat.lt_succ_of_le h))
/-- Is a leaf under a root. -/
def checkB (b : Int) (root : D32) (cnt i : Nat) (leaf : List UInt8) (path : List D32) : Bool :=
  decide (path.length = (upL cnt i).length) && decide ((climb b (upL cnt i).reverse path ⟨leafD b leaf, Len32.len⟩).val = root.val)
theorem Check_nat (b : Int) (root : List UInt8) [hr : Len32 root] (cnt i : Nat) (leaf : List UInt8) (m m' : SM) (path : List D32) (hi : i < cnt) (hc : cnt ≤ 9223372036854775807) (hl : leaf.length ≤ 100000000000000) :
    aPure Go.Proofs.Try.prog 64 [trA b, dgA root, I .i64 (cnt : Nat), I .i64 (i : Nat), .lst 1 (leaf.map byt) m, .lst 32 (path.map dgF) m'] (B (checkB b ⟨root, hr.len⟩ cnt i leaf path)) := by
  refine ACalls.fin (tree_Tree_Check.go ?_)
  unfold tree_Tree_Check.sh
  repeat' (first | with_reducible apply Stp.go | with_reducible refine imp fun _ => ?_ | (with_reducible refine hyp ?_ ?_; first | assumption | exact leftT_mem (by assumption)) | (with_reducible refine need ?_ ?_; first | trivial | omega | exact ⟨by assumption, by omega⟩ | (simp only [List.length_append, List.length_cons, List.length_nil, List.length_map, List.length_take, List.length_drop, List.length_replicate, List.length_set]; omega)) | (with_reducible refine fact ?_ ?_; first | trivial | exact ⟨rfl, rfl⟩ | kernel_rfl) | with_reducible refine choT (by assumption) ?_ | with_reducible refine choF (by assumption) ?_ | with_reducible refine choF' (by assumption) ?_ | (with_reducible refine altT ?_ ?_; first | omega | (simp only [List.length_append, List.length_cons, List.length_nil, List.length_map, List.length_take, List.length_drop, List.length_replicate, List.length_set]; omega)) | with_reducible refine altF ?_ | with_reducible refine all fun _ => ?_ | with_reducible refine both ?_ ?_ | (with_reducible refine choT ?_ ?_; omega) | (with_reducible refine choF ?_ ?_; omega) | with_reducible refine cho (fun _ => ?_) (fun _ => ?_))
  refine loopI (β := Nat × Nat × Value × List Bool) (fun x => x.2.1 < x.1 ∧ x.1 ≤ cnt ∧ x.2.2.2 ++ upL x.1 x.2.1 = upL cnt i) (fun x => [I .i64 (x.1 : Nat), I .i64 (x.2.1 : Nat), .lst 1 (leaf.map byt) m, .lst 32 (path.map dgF) m', .rptr [I .i64 b], .rptr (root.map byt), .own x.2.2.1 x.2.2.2.length]) (fun x => [.row x.2.2.1 145 1 (x.2.2.2.map fnU) 0]) (fun x => x.1) (cnt, i, .slice none 0 0, []) ⟨hi, Nat.le_refl _, rfl⟩ (Sub.nil_own 145 (sz := 1) (by decide) [] [I .i64 (cnt : Nat), I .i64 (i : Nat), .lst 1 (leaf.map byt) m, .lst 32 (path.map dgF) m', .rptr [I .i64 b], .rptr (root.map byt)] []) ?_
  rintro ⟨n, j, v, us⟩ ⟨h1, h2, h3⟩
  dsimp only at h1 h2 h3 ⊢
  have hul := upL_63 hc i
  have hus : us.length ≤ 63 := by have := congrArg List.length h3; rw [List.length_append] at this; omega
  by_cases h4 : n ≤ 1
  · have e : upL n j = [] := by unfold upL; rw [dif_pos h4]
    rw [e, List.append_nil] at h3
    subst h3
    have hk : (leafD b leaf).length = 32 := Len32.len
    have hr2 := hr.len
    by_cases hp : path.length = (upL cnt i).length
    · generalize hU : upL cnt i = U at *
      have e0 : checkB b ⟨root, hr.len⟩ cnt i leaf path = decide ((climb b U.reverse path ⟨leafD b leaf, hk⟩).val = root) := by
        rw [checkB, hU, decide_eq_true hp, Bool.true_and]
      rw [e0]
      repeat' (first | with_reducible apply Stp.go | with_reducible refine imp fun _ => ?_ | (with_reducible refine hyp ?_ ?_; first | assumption | exact leftT_mem (by assumption)) | (with_reducible refine need ?_ ?_; first | trivial | omega | exact ⟨by assumption, by omega⟩ | (simp only [List.length_append, List.length_cons, List.length_nil, List.length_map, List.length_take, List.length_drop, List.length_replicate, List.length_set]; omega)) | (with_reducible refine fact ?_ ?_; first | trivial | exact ⟨rfl, rfl⟩ | kernel_rfl) | with_reducible refine choT (by assumption) ?_ | with_reducible refine choF (by assumption) ?_ | with_reducible refine choF' (by assumption) ?_ | (with_reducible refine altT ?_ ?_; first | omega | (simp only [List.length_append, List.length_cons, List.length_nil, List.length_map, List.length_take, List.length_drop, List.length_replicate, List.length_set]; omega)) | with_reducible refine altF ?_ | with_reducible refine all fun _ => ?_ | with_reducible refine both ?_ ?_ | (with_reducible refine choT ?_ ?_; omega) | (with_reducible refine choF ?_ ?_; omega) | with_reducible refine cho (fun _ => ?_) (fun _ => ?_))
      refine loopI (β := Nat × D32) (fun x => x.1 ≤ path.length ∧ climb b (U.reverse.drop x.1) (path.drop x.1) x.2 = climb b U.reverse path ⟨leafD b leaf, hk⟩) (fun x => [.rptr [I .i64 b], .rptr (root.map byt), .own v U.length, ptrAt _ 0, .lst 32 (path.map dgF) m', I .i64 (path.length : Nat), I .i64 (x.1 : Nat)]) (fun x => [.var _ DgT (x.2.val.map byt), .row v 145 1 (U.map fnU) 0]) (fun x => path.length - x.1) (0, ⟨leafD b leaf, hk⟩) ⟨Nat.zero_le _, rfl⟩ (Sub.refl _ _) ?_
      rintro ⟨q, d⟩ ⟨g1, g2⟩
      dsimp only at g1 g2 ⊢
      have gd := d.len
      by_cases g3 : q < path.length
      · have g4 : U.length - 1 - q < U.length := by omega
        have gp := (path.getD q default).len
        have gs := climb_step b d hp g3
        have n1 : (nodeD b d.val (path.getD q default).val).length = 32 := Len32.len
        have n2 : (nodeD b (path.getD q default).val d.val).length = 32 := Len32.len
        cases hu : U.getD (U.length - 1 - q) default with
        | true =>
          repeat' (first | with_reducible apply Stp.go | with_reducible refine imp fun _ => ?_ | (with_reducible refine hyp ?_ ?_; first | assumption | exact leftT_mem (by assumption)) | (with_reducible refine need ?_ ?_; first | trivial | omega | exact ⟨by assumption, by omega⟩ | (simp only [List.length_append, List.length_cons, List.length_nil, List.length_map, List.length_take, List.length_drop, List.length_replicate, List.length_set]; omega)) | (with_reducible refine fact ?_ ?_; first | trivial | exact ⟨rfl, rfl⟩ | kernel_rfl) | with_reducible refine choT (by assumption) ?_ | with_reducible refine choF (by assumption) ?_ | with_reducible refine choF' (by assumption) ?_ | (with_reducible refine altT ?_ ?_; first | omega | (simp only [List.length_append, List.length_cons, List.length_nil, List.length_map, List.length_take, List.length_drop, List.length_replicate, List.length_set]; omega)) | with_reducible refine altF ?_ | with_reducible refine all fun _ => ?_ | with_reducible refine both ?_ ?_ | (with_reducible refine choT ?_ ?_; omega) | (with_reducible refine choF ?_ ?_; omega) | with_reducible refine cho (fun _ => ?_) (fun _ => ?_))
          rw [hu, show fnU true = .val (.func (.func 71) #[] #[]) from rfl]
          repeat' (first | with_reducible apply Stp.go | with_reducible refine imp fun _ => ?_ | (with_reducible refine hyp ?_ ?_; first | assumption | exact leftT_mem (by assumption)) | (with_reducible refine need ?_ ?_; first | trivial | omega | exact ⟨by assumption, by omega⟩ | (simp only [List.length_append, List.length_cons, List.length_nil, List.length_map, List.length_take, List.length_drop, List.length_replicate, List.length_set]; omega)) | (with_reducible refine fact ?_ ?_; first | trivial | exact ⟨rfl, rfl⟩ | kernel_rfl) | with_reducible refine choT (by assumption) ?_ | with_reducible refine choF (by assumption) ?_ | with_reducible refine choF' (by assumption) ?_ | (with_reducible refine altT ?_ ?_; first | omega | (simp only [List.length_append, List.length_cons, List.length_nil, List.length_map, List.length_take, List.length_drop, List.length_replicate, List.length_set]; omega)) | with_reducible refine altF ?_ | with_reducible refine all fun _ => ?_ | with_reducible refine both ?_ ?_ | (with_reducible refine choT ?_ ?_; omega) | (with_reducible refine choF ?_ ?_; omega) | with_reducible refine cho (fun _ => ?_) (fun _ => ?_))
          rw [hu] at gs
          refine again (q + 1, ⟨nodeD b d.val (path.getD q default).val, n1⟩) (by dsimp only; omega) ⟨by dsimp only; omega, ?_⟩ (Sub.drop_ (List.sublist_cons_self _ _) _)
          dsimp only
          rw [← g2, gs]
          rfl
        | false =>
          repeat' (first | with_reducible apply Stp.go | with_reducible refine imp fun _ => ?_ | (with_reducible refine hyp ?_ ?_; first | assumption | exact leftT_mem (by assumption)) | (with_reducible refine need ?_ ?_; first | trivial | omega | exact ⟨by assumption, by omega⟩ | (simp only [List.length_append, List.length_cons, List.length_nil, List.length_map, List.length_take, List.length_drop, List.length_replicate, List.length_set]; omega)) | (with_reducible refine fact ?_ ?_; first | trivial | exact ⟨rfl, rfl⟩ | kernel_rfl) | with_reducible refine choT (by assumption) ?_ | with_reducible refine choF (by assumption) ?_ | with_reducible refine choF' (by assumption) ?_ | (with_reducible refine altT ?_ ?_; first | omega | (simp only [List.length_append, List.length_cons, List.length_nil, List.length_map, List.length_take, List.length_drop, List.length_replicate, List.length_set]; omega)) | with_reducible refine altF ?_ | with_reducible refine all fun _ => ?_ | with_reducible refine both ?_ ?_ | (with_reducible refine choT ?_ ?_; omega) | (with_reducible refine choF ?_ ?_; omega) | with_reducible refine cho (fun _ => ?_) (fun _ => ?_))
          rw [hu, show fnU false = .val (.func (.func 103) #[] #[]) from rfl]
          repeat' (first | with_reducible apply Stp.go | with_reducible refine imp fun _ => ?_ | (with_reducible refine hyp ?_ ?_; first | assumption | exact leftT_mem (by assumption)) | (with_reducible refine need ?_ ?_; first | trivial | omega | exact ⟨by assumption, by omega⟩ | (simp only [List.length_append, List.length_cons, List.length_nil, List.length_map, List.length_take, List.length_drop, List.length_replicate, List.length_set]; omega)) | (with_reducible refine fact ?_ ?_; first | trivial | exact ⟨rfl, rfl⟩ | kernel_rfl) | with_reducible refine choT (by assumption) ?_ | with_reducible refine choF (by assumption) ?_ | with_reducible refine choF' (by assumption) ?_ | (with_reducible refine altT ?_ ?_; first | omega | (simp only [List.length_append, List.length_cons, List.length_nil, List.length_map, List.length_take, List.length_drop, List.length_replicate, List.length_set]; omega)) | with_reducible refine altF ?_ | with_reducible refine all fun _ => ?_ | with_reducible refine both ?_ ?_ | (with_reducible refine choT ?_ ?_; omega) | (with_reducible refine choF ?_ ?_; omega) | with_reducible refine cho (fun _ => ?_) (fun _ => ?_))
          rw [hu] at gs
          refine again (q + 1, ⟨nodeD b (path.getD q default).val d.val, n2⟩) (by dsimp only; omega) ⟨by dsimp only; omega, ?_⟩ (Sub.drop_ (List.sublist_cons_self _ _) _)
          dsimp only
          rw [← g2, gs]
          rfl
      · have g4 : q = path.length := by omega
        subst g4
        rw [List.drop_length] at g2
        have g5 : climb b (U.reverse.drop path.length) [] d = d := by
          cases U.reverse.drop path.length <;> rfl
        rw [g5] at g2
        rw [← g2]
        repeat' (first | with_reducible apply Stp.go | with_reducible refine imp fun _ => ?_ | (with_reducible refine hyp ?_ ?_; first | assumption | exact leftT_mem (by assumption)) | (with_reducible refine need ?_ ?_; first | trivial | omega | exact ⟨by assumption, by omega⟩ | (simp only [List.length_append, List.length_cons, List.length_nil, List.length_map, List.length_take, List.length_drop, List.length_replicate, List.length_set]; omega)) | (with_reducible refine fact ?_ ?_; first | trivial | exact ⟨rfl, rfl⟩ | kernel_rfl) | with_reducible refine choT (by assumption) ?_ | with_reducible refine choF (by assumption) ?_ | with_reducible refine choF' (by assumption) ?_ | (with_reducible refine altT ?_ ?_; first | omega | (simp only [List.length_append, List.length_cons, List.length_nil, List.length_map, List.length_take, List.length_drop, List.length_replicate, List.length_set]; omega)) | with_reducible refine altF ?_ | with_reducible refine all fun _ => ?_ | with_reducible refine both ?_ ?_ | (with_reducible refine choT ?_ ?_; omega) | (with_reducible refine choF ?_ ?_; omega) | with_reducible refine cho (fun _ => ?_) (fun _ => ?_))
        exact ⟨_, _, _, rfl, Sub.app_nil _, rfl, rfl⟩
    · repeat' (first | with_reducible apply Stp.go | with_reducible refine imp fun _ => ?_ | (with_reducible refine hyp ?_ ?_; first | assumption | exact leftT_mem (by assumption)) | (with_reducible refine need ?_ ?_; first | trivial | omega | exact ⟨by assumption, by omega⟩ | (simp only [List.length_append, List.length_cons, List.length_nil, List.length_map, List.length_take, List.length_drop, List.length_replicate, List.length_set]; omega)) | (with_reducible refine fact ?_ ?_; first | trivial | exact ⟨rfl, rfl⟩ | kernel_rfl) | with_reducible refine choT (by assumption) ?_ | with_reducible refine choF (by assumption) ?_ | with_reducible refine choF' (by assumption) ?_ | (with_reducible refine altT ?_ ?_; first | omega | (simp only [List.length_append, List.length_cons, List.length_nil, List.length_map, List.length_take, List.length_drop, List.length_replicate, List.length_set]; omega)) | with_reducible refine altF ?_ | with_reducible refine all fun _ => ?_ | with_reducible refine both ?_ ?_ | (with_reducible refine choT ?_ ?_; omega) | (with_reducible refine choF ?_ ?_; omega) | with_reducible refine cho (fun _ => ?_) (fun _ => ?_))
      refine ⟨_, _, _, rfl, Sub.app_nil _, ?_, rfl⟩
      rw [checkB, decide_eq_false hp, Bool.false_and]
  · have hh := halfN_lt (n := n) (by omega)
    by_cases h5 : j < halfN n
    · have e : upL n j = true :: upL (halfN n) j := by
        conv => lhs; unfold upL
        rw [dif_neg h4, if_pos h5]
      rw [e] at h3
      repeat' (first | with_reducible apply Stp.go | with_reducible refine imp fun _ => ?_ | (with_reducible refine hyp ?_ ?_; first | assumption | exact leftT_mem (by assumption)) | (with_reducible refine need ?_ ?_; first | trivial | omega | exact ⟨by assumption, by omega⟩ | (simp only [List.length_append, List.length_cons, List.length_nil, List.length_map, List.length_take, List.length_drop, List.length_replicate, List.length_set]; omega)) | (with_reducible refine fact ?_ ?_; first | trivial | exact ⟨rfl, rfl⟩ | kernel_rfl) | with_reducible refine choT (by assumption) ?_ | with_reducible refine choF (by assumption) ?_ | with_reducible refine choF' (by assumption) ?_ | (with_reducible refine altT ?_ ?_; first | omega | (simp only [List.length_append, List.length_cons, List.length_nil, List.length_map, List.length_take, List.length_drop, List.length_replicate, List.length_set]; omega)) | with_reducible refine altF ?_ | with_reducible refine all fun _ => ?_ | with_reducible refine both ?_ ?_ | (with_reducible refine choT ?_ ?_; omega) | (with_reducible refine choF ?_ ?_; omega) | with_reducible refine cho (fun _ => ?_) (fun _ => ?_))
      rename_i w
      exact again (halfN n, j, w, us ++ [true]) (by dsimp only; omega) ⟨by dsimp only; omega, by dsimp only; omega, by dsimp only; rw [List.append_assoc]; exact h3⟩ (Sub.refl _ _)
    · have e : upL n j = false :: upL (n - halfN n) (j - halfN n) := by
        conv => lhs; unfold upL
        rw [dif_neg h4, if_neg h5]
      rw [e] at h3
      repeat' (first | with_reducible apply Stp.go | with_reducible refine imp fun _ => ?_ | (with_reducible refine hyp ?_ ?_; first | assumption | exact leftT_mem (by assumption)) | (with_reducible refine need ?_ ?_; first | trivial | omega | exact ⟨by assumption, by omega⟩ | (simp only [List.length_append, List.length_cons, List.length_nil, List.length_map, List.length_take, List.length_drop, List.length_replicate, List.length_set]; omega)) | (with_reducible refine fact ?_ ?_; first | trivial | exact ⟨rfl, rfl⟩ | kernel_rfl) | with_reducible refine choT (by assumption) ?_ | with_reducible refine choF (by assumption) ?_ | with_reducible refine choF' (by assumption) ?_ | (with_reducible refine altT ?_ ?_; first | omega | (simp only [List.length_append, List.length_cons, List.length_nil, List.length_map, List.length_take, List.length_drop, List.length_replicate, List.length_set]; omega)) | with_reducible refine altF ?_ | with_reducible refine all fun _ => ?_ | with_reducible refine both ?_ ?_ | (with_reducible refine choT ?_ ?_; omega) | (with_reducible refine choF ?_ ?_; omega) | with_reducible refine cho (fun _ => ?_) (fun _ => ?_))
      rename_i w
      exact again (n - halfN n, j - halfN n, w, us ++ [false]) (by dsimp only; omega) ⟨by dsimp only; omega, by dsimp only; omega, by dsimp only; rw [List.append_assoc]; exact h3⟩ (Sub.refl _ _)
/-- Likewise, of any place and count. -/
def checkZ (b : Int) (root : D32) (cnt i : Int) (leaf : List UInt8) (path : List D32) : Bool := decide (0 ≤ i ∧ i < cnt) && checkB b root cnt.toNat i.toNat leaf path
theorem checkZ_in {b : Int} {root : D32} {cnt i : Int} {leaf : List UInt8} {path : List D32} (h : checkZ b root cnt i leaf path = true) : 0 ≤ i ∧ i < cnt := by
  unfold checkZ at h
  rw [Bool.and_eq_true, decide_eq_true_eq] at h
  exact h.1
theorem checkZ_nat (b : Int) (root : D32) {cnt i : Nat} (leaf : List UInt8) (path : List D32) (h : i < cnt) : checkZ b root cnt i leaf path = checkB b root cnt i leaf path := by
  rw [checkZ, decide_eq_true (show (0 : Int) ≤ i ∧ (i : Int) < cnt by omega), Bool.true_and, Int.toNat_natCast, Int.toNat_natCast]
theorem Check_ok (b : Int) (root : List UInt8) [hr : Len32 root] (cnt i : Int) (leaf : List UInt8) (m m' : SM) (path : List D32) (hc : cnt ≤ 9223372036854775807) (hl : leaf.length ≤ 100000000000000) :
    aPure Go.Proofs.Try.prog 64 [trA b, dgA root, I .i64 cnt, I .i64 i, .lst 1 (leaf.map byt) m, .lst 32 (path.map dgF) m'] (B (checkZ b ⟨root, hr.len⟩ cnt i leaf path)) := by
  by_cases h : 0 ≤ i ∧ i < cnt
  · obtain ⟨n, rfl⟩ := Int.eq_ofNat_of_zero_le (show 0 ≤ cnt by omega)
    obtain ⟨j, rfl⟩ := Int.eq_ofNat_of_zero_le h.1
    rw [checkZ_nat _ _ _ _ (by omega)]
    exact Check_nat b root n j leaf m m' path (by omega) (by omega) hl
  · rw [checkZ, decide_eq_false h, Bool.false_and]
    refine ACalls.fin (tree_Tree_Check.go ?_)
    unfold tree_Tree_Check.sh
    by_cases h0 : i < 0
    · repeat' (first | with_reducible apply Stp.go | with_reducible refine imp fun _ => ?_ | (with_reducible refine hyp ?_ ?_; first | assumption | exact leftT_mem (by assumption)) | (with_reducible refine need ?_ ?_; first | trivial | omega | exact ⟨by assumption, by omega⟩ | (simp only [List.length_append, List.length_cons, List.length_nil, List.length_map, List.length_take, List.length_drop, List.length_replicate, List.length_set]; omega)) | (with_reducible refine fact ?_ ?_; first | trivial | exact ⟨rfl, rfl⟩ | kernel_rfl) | with_reducible refine choT (by assumption) ?_ | with_reducible refine choF (by assumption) ?_ | with_reducible refine choF' (by assumption) ?_ | (with_reducible refine altT ?_ ?_; first | omega | (simp only [List.length_append, List.length_cons, List.length_nil, List.length_map, List.length_take, List.length_drop, List.length_replicate, List.length_set]; omega)) | with_reducible refine altF ?_ | with_reducible refine all fun _ => ?_ | with_reducible refine both ?_ ?_ | (with_reducible refine choT ?_ ?_; omega) | (with_reducible refine choF ?_ ?_; omega) | with_reducible refine cho (fun _ => ?_) (fun _ => ?_))
      exact ⟨_, _, _, rfl, Sub.app_nil _, rfl, rfl⟩
    · have h1 : cnt ≤ i := by omega
      repeat' (first | with_reducible apply Stp.go | with_reducible refine imp fun _ => ?_ | (with_reducible refine hyp ?_ ?_; first | assumption | exact leftT_mem (by assumption)) | (with_reducible refine need ?_ ?_; first | trivial | omega | exact ⟨by assumption, by omega⟩ | (simp only [List.length_append, List.length_cons, List.length_nil, List.length_map, List.length_take, List.length_drop, List.length_replicate, List.length_set]; omega)) | (with_reducible refine fact ?_ ?_; first | trivial | exact ⟨rfl, rfl⟩ | kernel_rfl) | with_reducible refine choT (by assumption) ?_ | with_reducible refine choF (by assumption) ?_ | with_reducible refine choF' (by assumption) ?_ | (with_reducible refine altT ?_ ?_; first | omega | (simp only [List.length_append, List.length_cons, List.length_nil, List.length_map, List.length_take, List.length_drop, List.length_replicate, List.length_set]; omega)) | with_reducible refine altF ?_ | with_reducible refine all fun _ => ?_ | with_reducible refine both ?_ ?_ | (with_reducible refine choT ?_ ?_; omega) | (with_reducible refine choF ?_ ?_; omega) | with_reducible refine cho (fun _ => ?_) (fun _ => ?_))
      exact ⟨_, _, _, rfl, Sub.app_nil _, rfl, rfl⟩
instance {a a2 : AV} {root leaf : List UInt8} {m m' : SM} {b : Int} {cnt i : Int} {path : List D32} [hr : Len32 root] [h : IsL a byt 1 leaf m] [h2 : IsL a2 dgF 32 path m'] : PC Go.Proofs.Try.prog 64 [trA b, dgA root, I .i64 cnt, I .i64 i, a, a2] (cnt ≤ 9223372036854775807 ∧ leaf.length ≤ 100000000000000) (B (checkZ b ⟨root, hr.len⟩ cnt i leaf path)) := ⟨fun hl => ⟨[trA b, dgA root, I .i64 cnt, I .i64 i, .lst 1 (leaf.map byt) m, .lst 32 (path.map dgF) m'], ⟨SubV.refl _, SubV.refl _, SubV.refl _, SubV.refl _, h.sub, h2.sub, trivial⟩, Check_ok b root cnt i leaf m m' path hl.1 hl.2⟩⟩
/-- The path of a leaf leads to the root. -/
theorem climb_snoc (b : Int) : ∀ (us : List Bool) (xs : List D32) (u : Bool) (x d : D32), us.length = xs.length → climb b (us ++ [u]) (xs ++ [x]) d = stepD b u (climb b us xs d) x
  | [], [], u, x, d, _ => rfl
  | v :: us, y :: xs, u, x, d, h => climb_snoc b us xs u x (stepD b v d y) (by simpa using h)
theorem path_root (b : Int) : ∀ (n : Nat) (L : List (List UInt8)) (i : Nat), L.length = n → i < n → (pathD b L i).length = (upL n i).length ∧ (climb b (upL n i).reverse (pathD b L i) ⟨leafD b (L.getD i default), Len32.len⟩).val = rootD b L := by
  intro n
  induction n using Nat.strongRecOn with
  | _ n ih =>
    intro L i hn hi
    by_cases h1 : n ≤ 1
    · have e1 : pathD b L i = [] := by unfold pathD; rw [dif_pos (by omega)]
      have e2 : upL n i = [] := by unfold upL; rw [dif_pos h1]
      have e3 : rootD b L = leafD b (L.getD 0 default) := by unfold rootD; rw [dif_neg (by omega), dif_pos (by omega)]
      have e4 : i = 0 := by omega
      subst e4
      rw [e1, e2, e3]
      exact ⟨rfl, rfl⟩
    · have hh := halfN_lt (n := n) (by omega)
      have l1 : (L.take (halfN n)).length = halfN n := by rw [List.length_take]; omega
      have l2 : (L.drop (halfN n)).length = n - halfN n := by rw [List.length_drop, hn]
      have e3 : rootD b L = nodeD b (rootD b (L.take (halfN n))) (rootD b (L.drop (halfN n))) := by
        conv => lhs; unfold rootD
        rw [dif_neg (by omega), dif_neg (by omega), hn]
      by_cases h2 : i < halfN n
      · have e1 : pathD b L i = pathD b (L.take (halfN n)) i ++ [rootF b (L.drop (halfN n))] := by
          conv => lhs; unfold pathD
          rw [dif_neg (by omega), hn, if_pos h2]
        have e2 : upL n i = true :: upL (halfN n) i := by
          conv => lhs; unfold upL
          rw [dif_neg h1, if_pos h2]
        obtain ⟨i1, i2⟩ := ih (halfN n) hh.2 (L.take (halfN n)) i l1 h2
        have e5 : (L.take (halfN n)).getD i default = L.getD i default := by
          rw [List.getD_eq_getElem?_getD, List.getD_eq_getElem?_getD, List.getElem?_take, if_pos h2]
        rw [e5] at i2
        rw [e1, e2, e3]
        refine ⟨by simp [i1], ?_⟩
        rw [List.reverse_cons, climb_snoc b _ _ _ _ _ (by rw [List.length_reverse]; exact i1.symm)]
        show nodeD b (climb b _ _ _).val _ = _
        rw [i2]
      · have e1 : pathD b L i = pathD b (L.drop (halfN n)) (i - halfN n) ++ [rootF b (L.take (halfN n))] := by
          conv => lhs; unfold pathD
          rw [dif_neg (by omega), hn, if_neg h2]
        have e2 : upL n i = false :: upL (n - halfN n) (i - halfN n) := by
          conv => lhs; unfold upL
          rw [dif_neg h1, if_neg h2]
        obtain ⟨i1, i2⟩ := ih (n - halfN n) (by omega) (L.drop (halfN n)) (i - halfN n) l2 (by omega)
        have e5 : (L.drop (halfN n)).getD (i - halfN n) default = L.getD i default := by
          rw [List.getD_eq_getElem?_getD, List.getD_eq_getElem?_getD, List.getElem?_drop, show halfN n + (i - halfN n) = i by omega]
        rw [e5] at i2
        rw [e1, e2, e3]
        refine ⟨by simp [i1], ?_⟩
        rw [List.reverse_cons, climb_snoc b _ _ _ _ _ (by rw [List.length_reverse]; exact i1.symm)]
        show nodeD b _ (climb b _ _ _).val = _
        rw [i2]
end Go.Ab

/- What a table has of some keys, proved. -/
set_option linter.unusedVariables false
set_option linter.unusedSimpArgs false
namespace Go.Ab
/-- Some keys may be a table's. -/
def spanOk (l : List En) (lo hi : List UInt8) : Bool := !lt (l.getD (l.length - 1) default).key lo && (belowB (l.getD 0 default).key hi && belowB lo hi)
def spFrom (l : List En) (lo : List UInt8) : Nat := placeN l lo - 1
def spTo (l : List En) (hi : List UInt8) : Nat := min ((if hi = [] then l.length else placeN l hi) + 1) l.length
theorem spanOk_lt {l : List En} {lo hi : List UInt8} (hr : Rises l) (h0 : 0 < l.length) (h : spanOk l lo hi = true) : placeN l lo < l.length ∧ spFrom l lo < spTo l hi ∧ spTo l hi ≤ l.length := by
  unfold spanOk at h
  simp only [Bool.and_eq_true, Bool.not_eq_true'] at h
  obtain ⟨h1, h2, h3⟩ := h
  have hl := placeN_le l lo
  have h4 : placeN l lo < l.length := by
    rcases Nat.lt_or_ge (placeN l lo) l.length with h | h
    · exact h
    · exfalso
      have := (place_at hr lo (show l.length - 1 < l.length by omega)).2 (by omega)
      rw [h1] at this; cases this
  refine ⟨h4, ?_, by unfold spTo; omega⟩
  unfold spFrom spTo
  split
  · omega
  · rename_i hn
    have h5 : lt lo hi = true := by
      unfold belowB at h3
      rw [decide_eq_false hn, Bool.false_or] at h3
      exact h3
    have h6 : placeN l lo ≤ placeN l hi := by
      rcases Nat.lt_or_ge (placeN l hi) (placeN l lo) with h | h
      · have a1 := (place_at hr lo (show placeN l hi < l.length by omega)).2 h
        have a2 := (place_at hr hi (show placeN l hi < l.length by omega)).1 (lt_trans' a1 h5)
        omega
      · exact h
    omega
/-- An opening of some leaves, as a value. -/
abbrev spA (p : Int) (L : List (List UInt8)) (d : List D32) : AV := .agg [I .i64 p, .lst 1 (L.map bl) .ro, .lst 32 (d.map dgF) .ro]
/-- What is proved of some keys. -/
def spanP (b : Int) (l : List En) (lo hi : List UInt8) : Nat × Nat × List (List UInt8) × List D32 :=
  if fit l = true then
    if spanOk l lo hi = true then (0, spFrom l lo, ((l.map enB).take (spTo l hi)).drop (spFrom l lo), bsD b (l.map enB) (spFrom l lo) (spTo l hi))
    else (5, 0, [], [])
  else (1, 0, [], [])
theorem spSub (a : AV) : SubV (.agg [a, nilV, nilV]) (.agg [a, .lst 1 [] .ro, .lst 32 [] .ro]) := SubV.agg (.mk (SubV.refl _) (.mk (subNil 1 (by decide)) (.mk (subNil 32 (by decide)) .nl)))
def seek_ProveSpan.mark : Mark := ⟨fun t => Nat.beq t 17 || Nat.beq t 35 || Nat.beq t 41 || Nat.beq t 48 || Nat.beq t 58 || Nat.beq t 70, fun t => false, fun t => Nat.beq t 4, fun t => Nat.beq t 26 || Nat.beq t 33 || Nat.beq t 72, fun t => false⟩
def seek_ProveSpan.ann : Ann := ⟨fun n => [], fun n => bif Nat.beq n 9 then some [1, 4, 8, 10, 12] else none, fun n => none⟩
/-- 'marlstone/seek.ProveSpan' -/
def seek_ProveSpan.sh (a0 a1 a2 a3 : AV) (σ : Store) (Q : AEnd → Store → Prop) : Prop :=
  Do (aFreeze ((a0 : AV)).cells) fun t4 =>
  aNewVar 39 [.val (.int .i64 0), .val (.slice none 0 0), .val (.slice none 0 0)] σ fun t8 σ =>
  Do (aPureC Go.Proofs.Try.prog 36 [a1]) fun t17 =>
  Do (aUn Go.Proofs.Try.prog .not t17) fun t18 =>
  aCond t18
    (Do (aLit [.val (.int .i64 0), .val (.slice none 0 0), .val (.slice none 0 0)] [(0, 1), (1, 1), (2, 1)] []) fun t19 =>
    storeA 3 t8 t19 σ fun u σ_1 =>
    Do (loadA true 3 t8 σ_1) fun r8 => Q (.ret (.tuple [r8, (.val (.int .i64 1))])) σ_1)
    (Do (aBuiltin Go.Proofs.Try.prog .len #[22] [a1]) fun t22 =>
  Do (aBin Go.Proofs.Try.prog .sub 3 t22 (.val (.int .i64 1))) fun t23 =>
  Do (aIndexAddr .slice 4 a1 t23) fun t24 =>
  Do (aFieldAddr 0 1 t24) fun t25 =>
  Do (loadF false 1 t25) fun t26 =>
  Do (aBin Go.Proofs.Try.prog .lss 9 t26 a2) fun t28 =>
  Do (aGuard t28 false (aIs a1)) fun t30 =>
  Do (aGuard t28 false (aIndexAddr .slice 4 t30 (.val (.int .i64 0)))) fun t31 =>
  Do (aGuard t28 false (aFieldAddr 0 1 t31)) fun t32 =>
  Do (aGuard t28 false (loadF false 1 t32)) fun t33 =>
  Do (aGuard t28 false (aIs a3)) fun t34 =>
  Do (aGuard t28 false (aPureC Go.Proofs.Try.prog 43 [t33, t34])) fun t35 =>
  Do (aGuard t28 false (aUn Go.Proofs.Try.prog .not t35)) fun t36 =>
  Do (aPick t28 (.val (.bool true)) t36) fun t37 =>
  Do (aGuard t37 false (aIs a2)) fun t39 =>
  Do (aGuard t37 false (aIs a3)) fun t40 =>
  Do (aGuard t37 false (aPureC Go.Proofs.Try.prog 43 [t39, t40])) fun t41 =>
  Do (aGuard t37 false (aUn Go.Proofs.Try.prog .not t41)) fun t42 =>
  Do (aPick t37 (.val (.bool true)) t42) fun t43 =>
  aCond t43
    (Do (aLit [.val (.int .i64 0), .val (.slice none 0 0), .val (.slice none 0 0)] [(0, 1), (1, 1), (2, 1)] []) fun t44 =>
    storeA 3 t8 t44 σ fun u_1 σ_2 =>
    Do (loadA true 3 t8 σ_2) fun r8_1 => Q (.ret (.tuple [r8_1, (.val (.int .i64 5))])) σ_2)
    (Do (aPureC Go.Proofs.Try.prog 37 [a1, a2]) fun t48 =>
  Do (aExt t48 0) fun t49 =>
  Do (aExt t48 1) fun t50 =>
  Do (aBuiltin Go.Proofs.Try.prog .len #[22] [a1]) fun t52 =>
  aJoin (fun j =>
    Do (aBin Go.Proofs.Try.prog .neq 9 a3 (.val (.string ⟨#[]⟩))) fun t54 =>
    aCond t54
      (Do (aPureC Go.Proofs.Try.prog 37 [a1, a3]) fun t58 =>
      Do (aExt t58 0) fun t59 =>
      Do (aExt t58 1) fun t60 =>
      j [a1, t4, t8, t49, t59] σ)
      (j [a1, t4, t8, t49, t52] σ)) fun vs σ_3 =>
  At vs 0 fun s1 => At vs 1 fun s4 => At vs 2 fun s8 => At vs 3 fun s10 => At vs 4 fun s12 => Do (aBin Go.Proofs.Try.prog .sub 3 s10 (.val (.int .i64 1))) fun t62 =>
  Do (aBuiltin Go.Proofs.Try.prog .max #[3, 3] [t62, (.val (.int .i64 0))]) fun t63 =>
  Do (aBin Go.Proofs.Try.prog .add 3 s12 (.val (.int .i64 1))) fun t65 =>
  Do (aBuiltin Go.Proofs.Try.prog .len #[22] [s1]) fun t67 =>
  Do (aBuiltin Go.Proofs.Try.prog .min #[3, 3] [t65, t67]) fun t68 =>
  Do (aPureC Go.Proofs.Try.prog 32 [s1]) fun t70 =>
  Do (loadF true 1 s4) fun t72 =>
  aCall Go.Proofs.Try.prog 44 [t72, t70, t63, t68] σ_3 (fun t76 σ_4 =>
  Do (aExt t76 0) fun t77 =>
  Do (aExt t76 1) fun t78 =>
  Do (aSlice .slice 1 t70 (some t63) (some t68) none) fun t83 =>
  Do (aLit [.val (.int .i64 0), .val (.slice none 0 0), .val (.slice none 0 0)] [(0, 1), (1, 1), (2, 1)] [(0, t63), (1, t83), (2, t77)]) fun t85 =>
  storeA 3 s8 t85 σ_4 fun u_2 σ_5 =>
  Do (loadA true 3 s8 σ_5) fun r8_2 => Q (.ret (.tuple [r8_2, (.val (.int .i64 0))])) σ_5) (fun e σ_6 => Q (.pan e) σ_6)))
theorem seek_ProveSpan.eq (a0 a1 a2 a3 : AV) (σ : Store) (Q : AEnd → Store → Prop) : vc (semOf Go.Proofs.Try.prog seek_ProveSpan.mark) Go.Proofs.Try.f14.ntmps seek_ProveSpan.ann (bodyOf Go.Proofs.Try.f14) (endK [.cell 8 true 3, .tmp 9] Q) (argFr [a0, a1, a2, a3]) σ = seek_ProveSpan.sh a0 a1 a2 a3 σ Q := by kernel_rfl
theorem seek_ProveSpan.go {a0 a1 a2 a3 : AV} {σ : Store} {Q : AEnd → Store → Prop} (h : seek_ProveSpan.sh a0 a1 a2 a3 σ Q) : ACalls Go.Proofs.Try.prog 14 [a0, a1, a2, a3] σ Q :=
  acalls_of_eq [.cell 8 true 3, .tmp 9] Go.Proofs.Try.func14 (by kernel_rfl) (by kernel_rfl) (by kernel_rfl) (by kernel_rfl) (seek_ProveSpan.eq a0 a1 a2 a3 σ Q) h
theorem ProveSpan_ok (b : Int) (l : List En) (m : SM) (lo hi : List UInt8) (hl : l.length ≤ 1000000) : aPure Go.Proofs.Try.prog 14 [trA b, .lst 4 (l.map En.av) m, S lo, S hi] (.tuple [spA ((spanP b l lo hi).2.1 : Nat) (spanP b l lo hi).2.2.1 (spanP b l lo hi).2.2.2, I .i64 ((spanP b l lo hi).1 : Nat)]) := by
  refine ACalls.fin (seek_ProveSpan.go ?_)
  unfold seek_ProveSpan.sh
  have hb : ∀ b ∈ l.map enB, b.length ≤ 100000000000000 := fun b h => by
    obtain ⟨e, _, rfl⟩ := List.mem_map.1 h
    have := enB_length e
    omega
  have hml : (l.map enB).length = l.length := by simp
  have hL : (l.map enB).length ≤ 1000000 := by omega
  by_cases hf : fit l = true
  · have hr : Rises l := (sorted_iff l).1 (fit_right hf).2.2.1
    have h0 : 0 < l.length := (fit_right hf).2.1
    by_cases hs : spanOk l lo hi = true
    · obtain ⟨g1, g2, g3⟩ := spanOk_lt hr h0 hs
      have hs' := hs
      unfold spanOk at hs'
      simp only [Bool.and_eq_true, Bool.not_eq_true'] at hs'
      obtain ⟨s1, s2, s3⟩ := hs'
      have e : spanP b l lo hi = (0, spFrom l lo, ((l.map enB).take (spTo l hi)).drop (spFrom l lo), bsD b (l.map enB) (spFrom l lo) (spTo l hi)) := by rw [spanP, if_pos hf, if_pos hs]
      rw [e]
      have q1 : spFrom l lo < spTo l hi ∧ spTo l hi ≤ (l.map enB).length ∧ (l.map enB).length ≤ 1000000 ∧ ∀ b ∈ l.map enB, b.length ≤ 100000000000000 := ⟨g2, by omega, hL, hb⟩
      obtain ⟨z, hz⟩ : ∃ z : Nat, z = if hi = [] then l.length else placeN l hi := ⟨_, rfl⟩
      have hto : min (z + 1) l.length = spTo l hi := by rw [hz]; rfl
      have hpz := placeN_le l hi
      have hzl : z ≤ l.length := by rw [hz]; split <;> omega
      repeat' (first | with_reducible apply Stp.go | with_reducible refine imp fun _ => ?_ | (with_reducible refine hyp ?_ ?_; first | assumption | exact leftT_mem (by assumption)) | (with_reducible refine need ?_ ?_; first | trivial | omega | exact ⟨by assumption, by omega⟩ | (simp only [List.length_append, List.length_cons, List.length_nil, List.length_map, List.length_take, List.length_drop, List.length_replicate, List.length_set]; omega)) | (with_reducible refine fact ?_ ?_; first | trivial | exact ⟨rfl, rfl⟩ | kernel_rfl) | with_reducible refine choT (by assumption) ?_ | with_reducible refine choF (by assumption) ?_ | with_reducible refine choF' (by assumption) ?_ | (with_reducible refine altT ?_ ?_; first | omega | (simp only [List.length_append, List.length_cons, List.length_nil, List.length_map, List.length_take, List.length_drop, List.length_replicate, List.length_set]; omega)) | with_reducible refine altF ?_ | with_reducible refine all fun _ => ?_ | with_reducible refine both ?_ ?_ | (with_reducible refine choT ?_ ?_; omega) | (with_reducible refine choF ?_ ?_; omega) | with_reducible refine cho (fun _ => ?_) (fun _ => ?_))
      rename_i w
      refine joinI (β := Unit) (fun _ => True) (fun _ => [.lst 4 (l.map En.av) m, .rptr [I .i64 b], ptrAt w 0, I .i64 (placeN l lo : Nat), I .i64 (z : Nat)]) (fun _ => [.var w 39 [.val (.int .i64 0), .val (.slice none 0 0), .val (.slice none 0 0)]]) ?_ ?_
      · by_cases hh : hi = []
        · rw [if_pos hh] at hz
          subst hh
          have hnn : ([] : List UInt8) = [] := rfl
          rw [hz]
          repeat' (first | with_reducible apply Stp.go | with_reducible refine imp fun _ => ?_ | (with_reducible refine hyp ?_ ?_; first | assumption | exact leftT_mem (by assumption)) | (with_reducible refine need ?_ ?_; first | trivial | omega | exact ⟨by assumption, by omega⟩ | (simp only [List.length_append, List.length_cons, List.length_nil, List.length_map, List.length_take, List.length_drop, List.length_replicate, List.length_set]; omega)) | (with_reducible refine fact ?_ ?_; first | trivial | exact ⟨rfl, rfl⟩ | kernel_rfl) | with_reducible refine choT (by assumption) ?_ | with_reducible refine choF (by assumption) ?_ | with_reducible refine choF' (by assumption) ?_ | (with_reducible refine altT ?_ ?_; first | omega | (simp only [List.length_append, List.length_cons, List.length_nil, List.length_map, List.length_take, List.length_drop, List.length_replicate, List.length_set]; omega)) | with_reducible refine altF ?_ | with_reducible refine all fun _ => ?_ | with_reducible refine both ?_ ?_ | (with_reducible refine choT ?_ ?_; omega) | (with_reducible refine choF ?_ ?_; omega) | with_reducible refine cho (fun _ => ?_) (fun _ => ?_))
          exact meet () trivial (Sub.refl _ _)
        · rw [if_neg hh] at hz
          rw [hz]
          repeat' (first | with_reducible apply Stp.go | with_reducible refine imp fun _ => ?_ | (with_reducible refine hyp ?_ ?_; first | assumption | exact leftT_mem (by assumption)) | (with_reducible refine need ?_ ?_; first | trivial | omega | exact ⟨by assumption, by omega⟩ | (simp only [List.length_append, List.length_cons, List.length_nil, List.length_map, List.length_take, List.length_drop, List.length_replicate, List.length_set]; omega)) | (with_reducible refine fact ?_ ?_; first | trivial | exact ⟨rfl, rfl⟩ | kernel_rfl) | with_reducible refine choT (by assumption) ?_ | with_reducible refine choF (by assumption) ?_ | with_reducible refine choF' (by assumption) ?_ | (with_reducible refine altT ?_ ?_; first | omega | (simp only [List.length_append, List.length_cons, List.length_nil, List.length_map, List.length_take, List.length_drop, List.length_replicate, List.length_set]; omega)) | with_reducible refine altF ?_ | with_reducible refine all fun _ => ?_ | with_reducible refine both ?_ ?_ | (with_reducible refine choT ?_ ?_; omega) | (with_reducible refine choF ?_ ?_; omega) | with_reducible refine cho (fun _ => ?_) (fun _ => ?_))
          exact meet () trivial (Sub.refl _ _)
      · rintro ⟨⟩ _
        by_cases hp0 : placeN l lo = 0
        · have hfr : max (((placeN l lo : Nat) : Int) - 1) 0 = ((spFrom l lo : Nat) : Int) := by unfold spFrom; omega
          repeat' (first | with_reducible apply Stp.go | with_reducible refine imp fun _ => ?_ | (with_reducible refine hyp ?_ ?_; first | assumption | exact leftT_mem (by assumption)) | (with_reducible refine need ?_ ?_; first | trivial | omega | exact ⟨by assumption, by omega⟩ | (simp only [List.length_append, List.length_cons, List.length_nil, List.length_map, List.length_take, List.length_drop, List.length_replicate, List.length_set]; omega)) | (with_reducible refine fact ?_ ?_; first | trivial | exact ⟨rfl, rfl⟩ | kernel_rfl) | with_reducible refine choT (by assumption) ?_ | with_reducible refine choF (by assumption) ?_ | with_reducible refine choF' (by assumption) ?_ | (with_reducible refine altT ?_ ?_; first | omega | (simp only [List.length_append, List.length_cons, List.length_nil, List.length_map, List.length_take, List.length_drop, List.length_replicate, List.length_set]; omega)) | with_reducible refine altF ?_ | with_reducible refine all fun _ => ?_ | with_reducible refine both ?_ ?_ | (with_reducible refine choT ?_ ?_; omega) | (with_reducible refine choF ?_ ?_; omega) | with_reducible refine cho (fun _ => ?_) (fun _ => ?_))
          rw [hto, hfr]
          repeat' (first | with_reducible apply Stp.go | with_reducible refine imp fun _ => ?_ | (with_reducible refine hyp ?_ ?_; first | assumption | exact leftT_mem (by assumption)) | (with_reducible refine need ?_ ?_; first | trivial | omega | exact ⟨by assumption, by omega⟩ | (simp only [List.length_append, List.length_cons, List.length_nil, List.length_map, List.length_take, List.length_drop, List.length_replicate, List.length_set]; omega)) | (with_reducible refine fact ?_ ?_; first | trivial | exact ⟨rfl, rfl⟩ | kernel_rfl) | with_reducible refine choT (by assumption) ?_ | with_reducible refine choF (by assumption) ?_ | with_reducible refine choF' (by assumption) ?_ | (with_reducible refine altT ?_ ?_; first | omega | (simp only [List.length_append, List.length_cons, List.length_nil, List.length_map, List.length_take, List.length_drop, List.length_replicate, List.length_set]; omega)) | with_reducible refine altF ?_ | with_reducible refine all fun _ => ?_ | with_reducible refine both ?_ ?_ | (with_reducible refine choT ?_ ?_; omega) | (with_reducible refine choF ?_ ?_; omega) | with_reducible refine cho (fun _ => ?_) (fun _ => ?_))
          exact ⟨_, _, _, rfl, Sub.app_nil _, rfl, rfl⟩
        · have hfr : max (placeN l lo - 1) 0 = spFrom l lo := by unfold spFrom; omega
          repeat' (first | with_reducible apply Stp.go | with_reducible refine imp fun _ => ?_ | (with_reducible refine hyp ?_ ?_; first | assumption | exact leftT_mem (by assumption)) | (with_reducible refine need ?_ ?_; first | trivial | omega | exact ⟨by assumption, by omega⟩ | (simp only [List.length_append, List.length_cons, List.length_nil, List.length_map, List.length_take, List.length_drop, List.length_replicate, List.length_set]; omega)) | (with_reducible refine fact ?_ ?_; first | trivial | exact ⟨rfl, rfl⟩ | kernel_rfl) | with_reducible refine choT (by assumption) ?_ | with_reducible refine choF (by assumption) ?_ | with_reducible refine choF' (by assumption) ?_ | (with_reducible refine altT ?_ ?_; first | omega | (simp only [List.length_append, List.length_cons, List.length_nil, List.length_map, List.length_take, List.length_drop, List.length_replicate, List.length_set]; omega)) | with_reducible refine altF ?_ | with_reducible refine all fun _ => ?_ | with_reducible refine both ?_ ?_ | (with_reducible refine choT ?_ ?_; omega) | (with_reducible refine choF ?_ ?_; omega) | with_reducible refine cho (fun _ => ?_) (fun _ => ?_))
          rw [hto, hfr]
          repeat' (first | with_reducible apply Stp.go | with_reducible refine imp fun _ => ?_ | (with_reducible refine hyp ?_ ?_; first | assumption | exact leftT_mem (by assumption)) | (with_reducible refine need ?_ ?_; first | trivial | omega | exact ⟨by assumption, by omega⟩ | (simp only [List.length_append, List.length_cons, List.length_nil, List.length_map, List.length_take, List.length_drop, List.length_replicate, List.length_set]; omega)) | (with_reducible refine fact ?_ ?_; first | trivial | exact ⟨rfl, rfl⟩ | kernel_rfl) | with_reducible refine choT (by assumption) ?_ | with_reducible refine choF (by assumption) ?_ | with_reducible refine choF' (by assumption) ?_ | (with_reducible refine altT ?_ ?_; first | omega | (simp only [List.length_append, List.length_cons, List.length_nil, List.length_map, List.length_take, List.length_drop, List.length_replicate, List.length_set]; omega)) | with_reducible refine altF ?_ | with_reducible refine all fun _ => ?_ | with_reducible refine both ?_ ?_ | (with_reducible refine choT ?_ ?_; omega) | (with_reducible refine choF ?_ ?_; omega) | with_reducible refine cho (fun _ => ?_) (fun _ => ?_))
          exact ⟨_, _, _, rfl, Sub.app_nil _, rfl, rfl⟩
    · have e : spanP b l lo hi = (5, 0, [], []) := by rw [spanP, if_pos hf, if_neg hs]
      rw [e]
      have hs' := hs
      unfold spanOk at hs'
      repeat' (first | with_reducible apply Stp.go | with_reducible refine imp fun _ => ?_ | (with_reducible refine hyp ?_ ?_; first | assumption | exact leftT_mem (by assumption)) | (with_reducible refine need ?_ ?_; first | trivial | omega | exact ⟨by assumption, by omega⟩ | (simp only [List.length_append, List.length_cons, List.length_nil, List.length_map, List.length_take, List.length_drop, List.length_replicate, List.length_set]; omega)) | (with_reducible refine fact ?_ ?_; first | trivial | exact ⟨rfl, rfl⟩ | kernel_rfl) | with_reducible refine choT (by assumption) ?_ | with_reducible refine choF (by assumption) ?_ | with_reducible refine choF' (by assumption) ?_ | (with_reducible refine altT ?_ ?_; first | omega | (simp only [List.length_append, List.length_cons, List.length_nil, List.length_map, List.length_take, List.length_drop, List.length_replicate, List.length_set]; omega)) | with_reducible refine altF ?_ | with_reducible refine all fun _ => ?_ | with_reducible refine both ?_ ?_ | (with_reducible refine choT ?_ ?_; omega) | (with_reducible refine choF ?_ ?_; omega) | with_reducible refine cho (fun _ => ?_) (fun _ => ?_))
      all_goals first
        | exact ⟨_, _, _, rfl, Sub.trans (Sub.app_nil _) (Sub.tuple (Sub.vals (.mk (spSub _) (.mk (SubV.refl _) .nl)))), rfl, rfl⟩
        | (exfalso; simp_all [lt])
  · have e : spanP b l lo hi = (1, 0, [], []) := by rw [spanP, if_neg hf]
    rw [e]
    repeat' (first | with_reducible apply Stp.go | with_reducible refine imp fun _ => ?_ | (with_reducible refine hyp ?_ ?_; first | assumption | exact leftT_mem (by assumption)) | (with_reducible refine need ?_ ?_; first | trivial | omega | exact ⟨by assumption, by omega⟩ | (simp only [List.length_append, List.length_cons, List.length_nil, List.length_map, List.length_take, List.length_drop, List.length_replicate, List.length_set]; omega)) | (with_reducible refine fact ?_ ?_; first | trivial | exact ⟨rfl, rfl⟩ | kernel_rfl) | with_reducible refine choT (by assumption) ?_ | with_reducible refine choF (by assumption) ?_ | with_reducible refine choF' (by assumption) ?_ | (with_reducible refine altT ?_ ?_; first | omega | (simp only [List.length_append, List.length_cons, List.length_nil, List.length_map, List.length_take, List.length_drop, List.length_replicate, List.length_set]; omega)) | with_reducible refine altF ?_ | with_reducible refine all fun _ => ?_ | with_reducible refine both ?_ ?_ | (with_reducible refine choT ?_ ?_; omega) | (with_reducible refine choF ?_ ?_; omega) | with_reducible refine cho (fun _ => ?_) (fun _ => ?_))
    exact ⟨_, _, _, rfl, Sub.trans (Sub.app_nil _) (Sub.tuple (Sub.vals (.mk (spSub _) (.mk (SubV.refl _) .nl)))), rfl, rfl⟩
instance {a : AV} {l : List En} {m : SM} {b : Int} {lo hi : List UInt8} [h : IsL a En.av 4 l m] : PC Go.Proofs.Try.prog 14 [trA b, a, S lo, S hi] (l.length ≤ 1000000) (.tuple [spA ((spanP b l lo hi).2.1 : Nat) (spanP b l lo hi).2.2.1 (spanP b l lo hi).2.2.2, I .i64 ((spanP b l lo hi).1 : Nat)]) := ⟨fun hl => ⟨[trA b, .lst 4 (l.map En.av) m, S lo, S hi], ⟨SubV.refl _, h.sub, SubV.refl _, SubV.refl _, trivial⟩, ProveSpan_ok b l m lo hi hl⟩⟩
end Go.Ab

/- Leaves held against a root. -/
set_option linter.unusedVariables false
set_option linter.unusedSimpArgs false
namespace Go.Ab
/-- The next of a path; none: it is bad. -/
def popD (s : List D32 × Bool) : D32 × (List D32 × Bool) := match s with
  | ([], _) => (⟨zeroD, Len32.len⟩, ([], true))
  | (x :: xs, c) => (x, (xs, c))
/-- The root of so many leaves, of which a part is there; what is left of the path. -/
def rootR (b : Int) (part : List (List UInt8)) (cnt : Nat) (p : Int) (s : List D32 × Bool) : D32 × (List D32 × Bool) :=
  if p + part.length ≤ 0 ∨ (cnt : Int) ≤ p then popD s
  else if h : cnt ≤ 1 then (⟨leafD b (part.getD (-p).toNat default), Len32.len⟩, s)
  else
    let x := rootR b part (halfN cnt) p s
    let y := rootR b part (cnt - halfN cnt) (p - halfN cnt) x.2
    (⟨nodeD b x.1.val y.1.val, Len32.len⟩, y.2)
termination_by cnt
decreasing_by
  · have := halfN_lt (n := cnt) (by omega); omega
  · have := halfN_lt (n := cnt) (by omega); omega
section rootR
variable {b : Int} {part : List (List UInt8)} {cnt : Nat} {p : Int} {s : List D32 × Bool}
theorem bsD_out {L : List (List UInt8)} {q : Int} (h : q ≤ 0 ∨ (L.length : Int) ≤ p) : bsD b L p q = [rootF b L] := by unfold bsD; rw [if_pos h]
theorem bsD_one {L : List (List UInt8)} {q : Int} (h : ¬ (q ≤ 0 ∨ (L.length : Int) ≤ p)) (h1 : L.length ≤ 1) : bsD b L p q = [] := by unfold bsD; rw [if_neg h, dif_pos h1]
theorem bsD_two {L : List (List UInt8)} {q : Int} (h : ¬ (q ≤ 0 ∨ (L.length : Int) ≤ p)) (h1 : ¬ L.length ≤ 1) : bsD b L p q = bsD b (L.take (halfN L.length)) p q ++ bsD b (L.drop (halfN L.length)) (p - (halfN L.length : Nat)) (q - (halfN L.length : Nat)) := by
  conv => lhs; unfold bsD
  rw [if_neg h, dif_neg h1]
end rootR
def tree_opening_root.mark : Mark := ⟨fun t => false, fun t => false, fun t => false, fun t => Nat.beq t 39 || Nat.beq t 63, fun t => false⟩
def tree_opening_root.ann : Ann := ⟨fun n => [], fun n => none, fun n => bif Nat.beq n 12 then some [6] else none⟩
def tree_Tree_CheckRange.mark : Mark := ⟨fun t => false, fun t => false, fun t => Nat.beq t 6 || Nat.beq t 7, fun t => Nat.beq t 36 || Nat.beq t 60, fun t => false⟩
def tree_Tree_CheckRange.ann : Ann := ⟨fun n => [], fun n => none, fun n => none⟩
end Go.Ab

/- The document's paths and ranges. -/
set_option linter.unusedVariables false
set_option linter.unusedSimpArgs false
namespace Go.Ab
def ref05_Path.mark : Mark := ⟨fun t => Nat.beq t 29 || Nat.beq t 47 || Nat.beq t 66, fun t => Nat.beq t 22, fun t => false, fun t => false, fun t => false⟩
def ref05_Path.ann : Ann := ⟨fun n => [], fun n => none, fun n => none⟩
/-- 'marlstone/marlstoneref05.Path' -/
def ref05_Path.sh (a0 a1 a2 : AV) (σ : Store) (Q : AEnd → Store → Prop) : Prop :=
  Do (aBin Go.Proofs.Try.prog .lss 3 a2 (.val (.int .i64 0))) fun t15 =>
  Do (aGuard t15 false (aIs a2)) fun t17 =>
  Do (aGuard t15 false (aIs a1)) fun t18 =>
  Do (aGuard t15 false (aBuiltin Go.Proofs.Try.prog .len #[79] [t18])) fun t19 =>
  Do (aGuard t15 false (aBin Go.Proofs.Try.prog .geq 3 t17 t19)) fun t20 =>
  Do (aPick t15 (.val (.bool true)) t20) fun t21 =>
  aCond t21
    (Q (.ret (.tuple [(.val (.slice none 0 0)), (.val (.int .i64 1))])) σ)
    (aRowL 46 (mkE [.val (.int .u8 0), .val (.int .u8 0), .val (.int .u8 0), .val (.int .u8 0), .val (.int .u8 0), .val (.int .u8 0), .val (.int .u8 0), .val (.int .u8 0), .val (.int .u8 0), .val (.int .u8 0), .val (.int .u8 0), .val (.int .u8 0), .val (.int .u8 0), .val (.int .u8 0), .val (.int .u8 0), .val (.int .u8 0), .val (.int .u8 0), .val (.int .u8 0), .val (.int .u8 0), .val (.int .u8 0), .val (.int .u8 0), .val (.int .u8 0), .val (.int .u8 0), .val (.int .u8 0), .val (.int .u8 0), .val (.int .u8 0), .val (.int .u8 0), .val (.int .u8 0), .val (.int .u8 0), .val (.int .u8 0), .val (.int .u8 0), .val (.int .u8 0)]) 32 0 [] σ fun t22 σ =>
  Do (aBuiltin Go.Proofs.Try.prog .len #[79] [a1]) fun t24 =>
  Do (aBin Go.Proofs.Try.prog .eql 3 t24 (.val (.int .i64 1))) fun t25 =>
  aCond t25
    (Q (.ret (.tuple [t22, (.val (.int .i64 0))])) σ)
    (Do (aBuiltin Go.Proofs.Try.prog .len #[79] [a1]) fun t28 =>
  Do (aPureC Go.Proofs.Try.prog 111 [t28]) fun t29 =>
  Do (aBin Go.Proofs.Try.prog .lss 3 a2 t29) fun t32 =>
  aCond t32
    (Do (aSlice .slice 1 a1 none (some t29) none) fun t37 =>
    aCall Go.Proofs.Try.prog 89 [a0, t37, a2] σ (fun t39 σ_1 =>
    Do (aExt t39 0) fun t40 =>
    Do (aExt t39 1) fun t41 =>
    Do (aSlice .slice 1 a1 (some t29) none none) fun t46 =>
    Do (aPureC Go.Proofs.Try.prog 112 [a0, t46]) fun t47 =>
    Do (aSlLit (mkE [.val (.int .u8 0), .val (.int .u8 0), .val (.int .u8 0), .val (.int .u8 0), .val (.int .u8 0), .val (.int .u8 0), .val (.int .u8 0), .val (.int .u8 0), .val (.int .u8 0), .val (.int .u8 0), .val (.int .u8 0), .val (.int .u8 0), .val (.int .u8 0), .val (.int .u8 0), .val (.int .u8 0), .val (.int .u8 0), .val (.int .u8 0), .val (.int .u8 0), .val (.int .u8 0), .val (.int .u8 0), .val (.int .u8 0), .val (.int .u8 0), .val (.int .u8 0), .val (.int .u8 0), .val (.int .u8 0), .val (.int .u8 0), .val (.int .u8 0), .val (.int .u8 0), .val (.int .u8 0), .val (.int .u8 0), .val (.int .u8 0), .val (.int .u8 0)]) 32 1 [(0, t47)]) fun t48 =>
    aAppend 46 32 32 t40 t48 σ_1 (subK fun t49 σ_2 =>
    Q (.ret (.tuple [t49, (.val (.int .i64 0))])) σ_2)) (fun e σ_3 => Q (.pan e) σ_3))
    (Do (aSlice .slice 1 a1 (some t29) none none) fun t54 =>
  Do (aBin Go.Proofs.Try.prog .sub 3 a2 t29) fun t57 =>
  aCall Go.Proofs.Try.prog 89 [a0, t54, t57] σ (fun t58 σ_4 =>
  Do (aExt t58 0) fun t59 =>
  Do (aExt t58 1) fun t60 =>
  Do (aSlice .slice 1 a1 none (some t29) none) fun t65 =>
  Do (aPureC Go.Proofs.Try.prog 112 [a0, t65]) fun t66 =>
  Do (aSlLit (mkE [.val (.int .u8 0), .val (.int .u8 0), .val (.int .u8 0), .val (.int .u8 0), .val (.int .u8 0), .val (.int .u8 0), .val (.int .u8 0), .val (.int .u8 0), .val (.int .u8 0), .val (.int .u8 0), .val (.int .u8 0), .val (.int .u8 0), .val (.int .u8 0), .val (.int .u8 0), .val (.int .u8 0), .val (.int .u8 0), .val (.int .u8 0), .val (.int .u8 0), .val (.int .u8 0), .val (.int .u8 0), .val (.int .u8 0), .val (.int .u8 0), .val (.int .u8 0), .val (.int .u8 0), .val (.int .u8 0), .val (.int .u8 0), .val (.int .u8 0), .val (.int .u8 0), .val (.int .u8 0), .val (.int .u8 0), .val (.int .u8 0), .val (.int .u8 0)]) 32 1 [(0, t66)]) fun t67 =>
  aAppend 46 32 32 t59 t67 σ_4 (subK fun t68 σ_5 =>
  Q (.ret (.tuple [t68, (.val (.int .i64 0))])) σ_5)) (fun e_1 σ_6 => Q (.pan e_1) σ_6))))
theorem ref05_Path.eq (a0 a1 a2 : AV) (σ : Store) (Q : AEnd → Store → Prop) : vc (semOf Go.Proofs.Try.prog ref05_Path.mark) Go.Proofs.Try.f89.ntmps ref05_Path.ann (bodyOf Go.Proofs.Try.f89) (endK [.tmp 6, .tmp 7] Q) (argFr [a0, a1, a2]) σ = ref05_Path.sh a0 a1 a2 σ Q := by kernel_rfl
theorem ref05_Path.go {a0 a1 a2 : AV} {σ : Store} {Q : AEnd → Store → Prop} (h : ref05_Path.sh a0 a1 a2 σ Q) : ACalls Go.Proofs.Try.prog 89 [a0, a1, a2] σ Q :=
  acalls_of_eq [.tmp 6, .tmp 7] Go.Proofs.Try.func89 (by kernel_rfl) (by kernel_rfl) (by kernel_rfl) (by kernel_rfl) (ref05_Path.eq a0 a1 a2 σ Q) h
def ref05_Above.mark : Mark := ⟨fun t => Nat.beq t 22 || Nat.beq t 37 || Nat.beq t 51 || Nat.beq t 57 || Nat.beq t 73 || Nat.beq t 79, fun t => false, fun t => false, fun t => Nat.beq t 35, fun t => false⟩
def ref05_Above.ann : Ann := ⟨fun n => [], fun n => none, fun n => none⟩
def ref05_Check.mark : Mark := ⟨fun t => Nat.beq t 28, fun t => false, fun t => Nat.beq t 7, fun t => Nat.beq t 34, fun t => false⟩
def ref05_Check.ann : Ann := ⟨fun n => [], fun n => none, fun n => none⟩
def ref05_beside.mark : Mark := ⟨fun t => Nat.beq t 23 || Nat.beq t 31, fun t => Nat.beq t 25, fun t => false, fun t => false, fun t => false⟩
def ref05_beside.ann : Ann := ⟨fun n => [], fun n => none, fun n => none⟩
/-- 'marlstone/marlstoneref05.beside' -/
def ref05_beside.sh (a0 a1 a2 a3 : AV) (σ : Store) (Q : AEnd → Store → Prop) : Prop :=
  Do (aBin Go.Proofs.Try.prog .leq 3 a3 (.val (.int .i64 0))) fun t14 =>
  Do (aGuard t14 false (aIs a2)) fun t16 =>
  Do (aGuard t14 false (aIs a1)) fun t17 =>
  Do (aGuard t14 false (aBuiltin Go.Proofs.Try.prog .len #[79] [t17])) fun t18 =>
  Do (aGuard t14 false (aBin Go.Proofs.Try.prog .geq 3 t16 t18)) fun t19 =>
  Do (aPick t14 (.val (.bool true)) t19) fun t20 =>
  aCond t20
    (Do (aPureC Go.Proofs.Try.prog 112 [a0, a1]) fun t23 =>
    aNewVar 46 [.val (.int .u8 0), .val (.int .u8 0), .val (.int .u8 0), .val (.int .u8 0), .val (.int .u8 0), .val (.int .u8 0), .val (.int .u8 0), .val (.int .u8 0), .val (.int .u8 0), .val (.int .u8 0), .val (.int .u8 0), .val (.int .u8 0), .val (.int .u8 0), .val (.int .u8 0), .val (.int .u8 0), .val (.int .u8 0), .val (.int .u8 0), .val (.int .u8 0), .val (.int .u8 0), .val (.int .u8 0), .val (.int .u8 0), .val (.int .u8 0), .val (.int .u8 0), .val (.int .u8 0), .val (.int .u8 0), .val (.int .u8 0), .val (.int .u8 0), .val (.int .u8 0), .val (.int .u8 0), .val (.int .u8 0), .val (.int .u8 0), .val (.int .u8 0)] σ fun t9 σ =>
    storeA 32 t9 t23 σ fun u σ_1 =>
    Do (loadA true 32 t9 σ_1) fun t24 =>
    aRowL 46 (mkE [.val (.int .u8 0), .val (.int .u8 0), .val (.int .u8 0), .val (.int .u8 0), .val (.int .u8 0), .val (.int .u8 0), .val (.int .u8 0), .val (.int .u8 0), .val (.int .u8 0), .val (.int .u8 0), .val (.int .u8 0), .val (.int .u8 0), .val (.int .u8 0), .val (.int .u8 0), .val (.int .u8 0), .val (.int .u8 0), .val (.int .u8 0), .val (.int .u8 0), .val (.int .u8 0), .val (.int .u8 0), .val (.int .u8 0), .val (.int .u8 0), .val (.int .u8 0), .val (.int .u8 0), .val (.int .u8 0), .val (.int .u8 0), .val (.int .u8 0), .val (.int .u8 0), .val (.int .u8 0), .val (.int .u8 0), .val (.int .u8 0), .val (.int .u8 0)]) 32 1 [(0, t24)] σ_1 fun t25 σ_2 =>
    Q (.ret t25) σ_2)
    (Do (aBuiltin Go.Proofs.Try.prog .len #[79] [a1]) fun t27 =>
  Do (aBin Go.Proofs.Try.prog .eql 3 t27 (.val (.int .i64 1))) fun t28 =>
  aCond t28
    (Q (.ret (.val (.slice none 0 0))) σ)
    (Do (aBuiltin Go.Proofs.Try.prog .len #[79] [a1]) fun t30 =>
  Do (aPureC Go.Proofs.Try.prog 111 [t30]) fun t31 =>
  Do (aSlice .slice 1 a1 none (some t31) none) fun t35 =>
  aCall Go.Proofs.Try.prog 91 [a0, t35, a2, a3] σ (fun t38 σ_3 =>
  Do (aSlice .slice 1 a1 (some t31) none none) fun t42 =>
  Do (aBin Go.Proofs.Try.prog .sub 3 a2 t31) fun t45 =>
  Do (aBin Go.Proofs.Try.prog .sub 3 a3 t31) fun t48 =>
  aCall Go.Proofs.Try.prog 91 [a0, t42, t45, t48] σ_3 (fun t49 σ_4 =>
  aAppend 46 32 32 t38 t49 σ_4 (subK fun t52 σ_5 =>
  Q (.ret t52) σ_5)) (fun e σ_6 => Q (.pan e) σ_6)) (fun e_1 σ_7 => Q (.pan e_1) σ_7)))
theorem ref05_beside.eq (a0 a1 a2 a3 : AV) (σ : Store) (Q : AEnd → Store → Prop) : vc (semOf Go.Proofs.Try.prog ref05_beside.mark) Go.Proofs.Try.f91.ntmps ref05_beside.ann (bodyOf Go.Proofs.Try.f91) (endK [.tmp 8] Q) (argFr [a0, a1, a2, a3]) σ = ref05_beside.sh a0 a1 a2 a3 σ Q := by kernel_rfl
theorem ref05_beside.go {a0 a1 a2 a3 : AV} {σ : Store} {Q : AEnd → Store → Prop} (h : ref05_beside.sh a0 a1 a2 a3 σ Q) : ACalls Go.Proofs.Try.prog 91 [a0, a1, a2, a3] σ Q :=
  acalls_of_eq [.tmp 8] Go.Proofs.Try.func91 (by kernel_rfl) (by kernel_rfl) (by kernel_rfl) (by kernel_rfl) (ref05_beside.eq a0 a1 a2 a3 σ Q) h
def ref05_Range.mark : Mark := ⟨fun t => false, fun t => false, fun t => false, fun t => false, fun t => false⟩
def ref05_Range.ann : Ann := ⟨fun n => [], fun n => none, fun n => none⟩
/-- 'marlstone/marlstoneref05.Range' -/
def ref05_Range.sh (a0 a1 a2 a3 : AV) (σ : Store) (Q : AEnd → Store → Prop) : Prop :=
  Do (aBin Go.Proofs.Try.prog .lss 3 a2 (.val (.int .i64 0))) fun t11 =>
  Do (aGuard t11 false (aIs a2)) fun t13 =>
  Do (aGuard t11 false (aIs a3)) fun t14 =>
  Do (aGuard t11 false (aBin Go.Proofs.Try.prog .geq 3 t13 t14)) fun t15 =>
  Do (aPick t11 (.val (.bool true)) t15) fun t16 =>
  Do (aGuard t16 false (aIs a3)) fun t18 =>
  Do (aGuard t16 false (aIs a1)) fun t19 =>
  Do (aGuard t16 false (aBuiltin Go.Proofs.Try.prog .len #[79] [t19])) fun t20 =>
  Do (aGuard t16 false (aBin Go.Proofs.Try.prog .gtr 3 t18 t20)) fun t21 =>
  Do (aPick t16 (.val (.bool true)) t21) fun t22 =>
  aCond t22
    (Q (.ret (.tuple [(.val (.slice none 0 0)), (.val (.int .i64 1))])) σ)
    (aCall Go.Proofs.Try.prog 91 [a0, a1, a2, a3] σ (fun t27 σ =>
  Q (.ret (.tuple [t27, (.val (.int .i64 0))])) σ) (fun e σ_1 => Q (.pan e) σ_1))
theorem ref05_Range.eq (a0 a1 a2 a3 : AV) (σ : Store) (Q : AEnd → Store → Prop) : vc (semOf Go.Proofs.Try.prog ref05_Range.mark) Go.Proofs.Try.f45.ntmps ref05_Range.ann (bodyOf Go.Proofs.Try.f45) (endK [.tmp 8, .tmp 9] Q) (argFr [a0, a1, a2, a3]) σ = ref05_Range.sh a0 a1 a2 a3 σ Q := by kernel_rfl
theorem ref05_Range.go {a0 a1 a2 a3 : AV} {σ : Store} {Q : AEnd → Store → Prop} (h : ref05_Range.sh a0 a1 a2 a3 σ Q) : ACalls Go.Proofs.Try.prog 45 [a0, a1, a2, a3] σ Q :=
  acalls_of_eq [.tmp 8, .tmp 9] Go.Proofs.Try.func45 (by kernel_rfl) (by kernel_rfl) (by kernel_rfl) (by kernel_rfl) (ref05_Range.eq a0 a1 a2 a3 σ Q) h
theorem ref05_Path_own (bits : Int) : ∀ (n : Nat) (L : List (List UInt8)) (m : SM) (i : Nat), L.length = n → i < L.length → L.length ≤ 1000000 → (∀ b ∈ L, b.length ≤ 10000000000000) →
    ACalls Go.Proofs.Try.prog 89 [I .i64 bits, .lst 1 (L.map tx) m, I .i64 (i : Nat)] [] fun x σ' => ∃ v, x = .ret (.tuple [.own v (pathD bits L i).length, .val (.int .i64 0)]) ∧ σ' = [.row v DgT 32 ((pathD bits L i).map dgF) 0] := by
  intro n
  induction n using Nat.strongRecOn with
  | _ n ih =>
    intro L m i hn hi hL hb
    refine ACalls.fin (ref05_Path.go ?_)
    unfold ref05_Path.sh
    have inst : ∀ (L' : List (List UInt8)) (m' : SM) (i' : Nat) (σ : Store), EC Go.Proofs.Try.prog 89 [I .i64 bits, .lst 1 (L'.map tx) m', I .i64 (i' : Nat)] σ (L'.length < n ∧ i' < L'.length ∧ L'.length ≤ 1000000 ∧ ∀ b ∈ L', b.length ≤ 10000000000000) Value (fun v => .tuple [.own v (pathD bits L' i').length, .val (.int .i64 0)]) (fun v => .row v DgT 32 ((pathD bits L' i').map dgF) 0 :: σ) := fun L' m' i' σ => ⟨fun h => ((ih L'.length h.1 L' m' i' rfl h.2.1 h.2.2.1 h.2.2.2).frame σ).mono fun x τ ⟨σ1, e1, _, v, e2, e3⟩ => ⟨v, e2, by rw [e1, e3]; rfl⟩⟩
    by_cases h1 : L.length = 1
    · have e : pathD bits L i = [] := by unfold pathD; rw [dif_pos (by omega)]
      rw [e]
      repeat' (first | with_reducible apply Stp.go | with_reducible refine imp fun _ => ?_ | (with_reducible refine hyp ?_ ?_; first | assumption | exact leftT_mem (by assumption)) | (with_reducible refine need ?_ ?_; first | trivial | omega | exact ⟨by assumption, by omega⟩ | (simp only [List.length_append, List.length_cons, List.length_nil, List.length_map, List.length_take, List.length_drop, List.length_replicate, List.length_set]; omega)) | (with_reducible refine fact ?_ ?_; first | trivial | exact ⟨rfl, rfl⟩ | kernel_rfl) | with_reducible refine choT (by assumption) ?_ | with_reducible refine choF (by assumption) ?_ | with_reducible refine choF' (by assumption) ?_ | (with_reducible refine altT ?_ ?_; first | omega | (simp only [List.length_append, List.length_cons, List.length_nil, List.length_map, List.length_take, List.length_drop, List.length_replicate, List.length_set]; omega)) | with_reducible refine altF ?_ | with_reducible refine all fun _ => ?_ | with_reducible refine both ?_ ?_ | (with_reducible refine choT ?_ ?_; omega) | (with_reducible refine choF ?_ ?_; omega) | with_reducible refine cho (fun _ => ?_) (fun _ => ?_))
      exact ⟨_, _, _, rfl, Sub.refl _ _, _, rfl, rfl⟩
    · have hh := halfN_lt (n := L.length) (by omega)
      have b1 : ∀ b ∈ L.take (halfN L.length), b.length ≤ 10000000000000 := fun b h => hb b (List.mem_of_mem_take h)
      have b2 : ∀ b ∈ L.drop (halfN L.length), b.length ≤ 10000000000000 := fun b h => hb b (List.mem_of_mem_drop h)
      have l1 : (L.take (halfN L.length)).length = halfN L.length := by rw [List.length_take]; omega
      have l2 : (L.drop (halfN L.length)).length = L.length - halfN L.length := by rw [List.length_drop]
      have r1 : (L.take (halfN L.length)).length ≤ 1000000 ∧ ∀ b ∈ L.take (halfN L.length), b.length ≤ 10000000000000 := ⟨by omega, b1⟩
      have r2 : (L.drop (halfN L.length)).length ≤ 1000000 ∧ ∀ b ∈ L.drop (halfN L.length), b.length ≤ 10000000000000 := ⟨by omega, b2⟩
      by_cases h2 : i < halfN L.length
      · have e : pathD bits L i = pathD bits (L.take (halfN L.length)) i ++ [rootF bits (L.drop (halfN L.length))] := by
          conv => lhs; unfold pathD
          rw [dif_neg (by omega), if_pos h2]
        have p1 : (L.take (halfN L.length)).length < n ∧ i < (L.take (halfN L.length)).length ∧ (L.take (halfN L.length)).length ≤ 1000000 ∧ ∀ b ∈ L.take (halfN L.length), b.length ≤ 10000000000000 := ⟨by omega, by omega, by omega, b1⟩
        have q1 := pathD_le bits _ (L.take (halfN L.length)) i rfl
        rw [e]
        repeat' (first | with_reducible apply Stp.go | with_reducible refine imp fun _ => ?_ | (with_reducible refine hyp ?_ ?_; first | assumption | exact leftT_mem (by assumption)) | (with_reducible refine need ?_ ?_; first | trivial | omega | exact ⟨by assumption, by omega⟩ | (simp only [List.length_append, List.length_cons, List.length_nil, List.length_map, List.length_take, List.length_drop, List.length_replicate, List.length_set]; omega)) | (with_reducible refine fact ?_ ?_; first | trivial | exact ⟨rfl, rfl⟩ | kernel_rfl) | with_reducible refine choT (by assumption) ?_ | with_reducible refine choF (by assumption) ?_ | with_reducible refine choF' (by assumption) ?_ | (with_reducible refine altT ?_ ?_; first | omega | (simp only [List.length_append, List.length_cons, List.length_nil, List.length_map, List.length_take, List.length_drop, List.length_replicate, List.length_set]; omega)) | with_reducible refine altF ?_ | with_reducible refine all fun _ => ?_ | with_reducible refine both ?_ ?_ | (with_reducible refine choT ?_ ?_; omega) | (with_reducible refine choF ?_ ?_; omega) | with_reducible refine cho (fun _ => ?_) (fun _ => ?_))
        exact ⟨_, _, _, rfl, Sub.drop_ (.cons_cons _ (.cons _ .slnil)) _, _, rfl, rfl⟩
      · have e : pathD bits L i = pathD bits (L.drop (halfN L.length)) (i - halfN L.length) ++ [rootF bits (L.take (halfN L.length))] := by
          conv => lhs; unfold pathD
          rw [dif_neg (by omega), if_neg h2]
        have p1 : (L.drop (halfN L.length)).length < n ∧ i - halfN L.length < (L.drop (halfN L.length)).length ∧ (L.drop (halfN L.length)).length ≤ 1000000 ∧ ∀ b ∈ L.drop (halfN L.length), b.length ≤ 10000000000000 := ⟨by omega, by omega, by omega, b2⟩
        have q1 := pathD_le bits _ (L.drop (halfN L.length)) (i - halfN L.length) rfl
        rw [e]
        repeat' (first | with_reducible apply Stp.go | with_reducible refine imp fun _ => ?_ | (with_reducible refine hyp ?_ ?_; first | assumption | exact leftT_mem (by assumption)) | (with_reducible refine need ?_ ?_; first | trivial | omega | exact ⟨by assumption, by omega⟩ | (simp only [List.length_append, List.length_cons, List.length_nil, List.length_map, List.length_take, List.length_drop, List.length_replicate, List.length_set]; omega)) | (with_reducible refine fact ?_ ?_; first | trivial | exact ⟨rfl, rfl⟩ | kernel_rfl) | with_reducible refine choT (by assumption) ?_ | with_reducible refine choF (by assumption) ?_ | with_reducible refine choF' (by assumption) ?_ | (with_reducible refine altT ?_ ?_; first | omega | (simp only [List.length_append, List.length_cons, List.length_nil, List.length_map, List.length_take, List.length_drop, List.length_replicate, List.length_set]; omega)) | with_reducible refine altF ?_ | with_reducible refine all fun _ => ?_ | with_reducible refine both ?_ ?_ | (with_reducible refine choT ?_ ?_; omega) | (with_reducible refine choF ?_ ?_; omega) | with_reducible refine cho (fun _ => ?_) (fun _ => ?_))
        exact ⟨_, _, _, rfl, Sub.drop_ (.cons_cons _ (.cons _ .slnil)) _, _, rfl, rfl⟩
theorem ref05_Path_ok (bits : Int) (L : List (List UInt8)) (m : SM) (i : Nat) (hi : i < L.length) (hL : L.length ≤ 1000000) (hb : ∀ b ∈ L, b.length ≤ 10000000000000) : aPure Go.Proofs.Try.prog 89 [I .i64 bits, .lst 1 (L.map tx) m, I .i64 (i : Nat)] (.tuple [.lst 32 ((pathD bits L i).map dgF) .ro, .val (.int .i64 0)]) :=
  ACalls.fin ((ref05_Path_own bits _ L m i rfl hi hL hb).mono fun x τ ⟨v, e1, e2⟩ => ⟨_, _, _, e1, by rw [e2]; exact Sub.tuple (retOwn (Sub.refl _ _)), rfl, rfl⟩)
instance {a : AV} {L : List (List UInt8)} {m : SM} {b : Int} {i : Nat} [h : IsL a tx 1 L m] : PC Go.Proofs.Try.prog 89 [I .i64 b, a, I .i64 (i : Nat)] (i < L.length ∧ L.length ≤ 1000000 ∧ ∀ b ∈ L, b.length ≤ 10000000000000) (.tuple [.lst 32 ((pathD b L i).map dgF) .ro, .val (.int .i64 0)]) := ⟨fun hl => ⟨[I .i64 b, .lst 1 (L.map tx) m, I .i64 (i : Nat)], ⟨SubV.refl _, h.sub, SubV.refl _, trivial⟩, ref05_Path_ok b L m i hl.1 hl.2.1 hl.2.2⟩⟩
/-- The document's paths beside some leaves. -/
theorem ref05_beside_own (bits : Int) : ∀ (n : Nat) (L : List (List UInt8)) (m : SM) (p q : Int), L.length = n → 0 < L.length → L.length ≤ 1000000 → (∀ b ∈ L, b.length ≤ 10000000000000) → -10000000 ≤ p - L.length → p ≤ 10000000 → -10000000 ≤ q - L.length → q ≤ 10000000 →
    ACalls Go.Proofs.Try.prog 91 [I .i64 bits, .lst 1 (L.map tx) m, I .i64 p, I .i64 q] [] fun x σ' => ∃ v, x = .ret (.own v (bsD bits L p q).length) ∧ σ' = [.row v DgT 32 ((bsD bits L p q).map dgF) 0] := by
  intro n
  induction n using Nat.strongRecOn with
  | _ n ih =>
    intro L m p q hn hi hL hb g1 g2 g3 g4
    refine ACalls.fin (ref05_beside.go ?_)
    unfold ref05_beside.sh
    have inst : ∀ (L' : List (List UInt8)) (m' : SM) (p' q' : Int) (σ : Store), EC Go.Proofs.Try.prog 91 [I .i64 bits, .lst 1 (L'.map tx) m', I .i64 p', I .i64 q'] σ (L'.length < n ∧ 0 < L'.length ∧ L'.length ≤ 1000000 ∧ (∀ b ∈ L', b.length ≤ 10000000000000) ∧ -10000000 ≤ p' - L'.length ∧ p' ≤ 10000000 ∧ -10000000 ≤ q' - L'.length ∧ q' ≤ 10000000) Value (fun w => .own w (bsD bits L' p' q').length) (fun w => .row w DgT 32 ((bsD bits L' p' q').map dgF) 0 :: σ) := fun L' m' p' q' σ => ⟨fun h => ((ih L'.length h.1 L' m' p' q' rfl h.2.1 h.2.2.1 h.2.2.2.1 h.2.2.2.2.1 h.2.2.2.2.2.1 h.2.2.2.2.2.2.1 h.2.2.2.2.2.2.2).frame σ).mono fun x τ ⟨σ1, e1, _, v, e2, e3⟩ => ⟨v, e2, by rw [e1, e3]; rfl⟩⟩
    have hLb : L.length ≤ 1000000 ∧ ∀ b ∈ L, b.length ≤ 10000000000000 := ⟨hL, hb⟩
    have n1 := rootD_len bits L
    by_cases h0 : q ≤ 0 ∨ (L.length : Int) ≤ p
    · rw [bsD_out h0]
      by_cases hq : q ≤ 0
      · repeat' (first | with_reducible apply Stp.go | with_reducible refine imp fun _ => ?_ | (with_reducible refine hyp ?_ ?_; first | assumption | exact leftT_mem (by assumption)) | (with_reducible refine need ?_ ?_; first | trivial | omega | exact ⟨by assumption, by omega⟩ | (simp only [List.length_append, List.length_cons, List.length_nil, List.length_map, List.length_take, List.length_drop, List.length_replicate, List.length_set]; omega)) | (with_reducible refine fact ?_ ?_; first | trivial | exact ⟨rfl, rfl⟩ | kernel_rfl) | with_reducible refine choT (by assumption) ?_ | with_reducible refine choF (by assumption) ?_ | with_reducible refine choF' (by assumption) ?_ | (with_reducible refine altT ?_ ?_; first | omega | (simp only [List.length_append, List.length_cons, List.length_nil, List.length_map, List.length_take, List.length_drop, List.length_replicate, List.length_set]; omega)) | with_reducible refine altF ?_ | with_reducible refine all fun _ => ?_ | with_reducible refine both ?_ ?_ | (with_reducible refine choT ?_ ?_; omega) | (with_reducible refine choF ?_ ?_; omega) | with_reducible refine cho (fun _ => ?_) (fun _ => ?_))
        exact ⟨_, _, _, rfl, Sub.drop_ (.cons_cons _ (.cons _ .slnil)) _, _, rfl, rfl⟩
      · have hp : (L.length : Int) ≤ p := by omega
        repeat' (first | with_reducible apply Stp.go | with_reducible refine imp fun _ => ?_ | (with_reducible refine hyp ?_ ?_; first | assumption | exact leftT_mem (by assumption)) | (with_reducible refine need ?_ ?_; first | trivial | omega | exact ⟨by assumption, by omega⟩ | (simp only [List.length_append, List.length_cons, List.length_nil, List.length_map, List.length_take, List.length_drop, List.length_replicate, List.length_set]; omega)) | (with_reducible refine fact ?_ ?_; first | trivial | exact ⟨rfl, rfl⟩ | kernel_rfl) | with_reducible refine choT (by assumption) ?_ | with_reducible refine choF (by assumption) ?_ | with_reducible refine choF' (by assumption) ?_ | (with_reducible refine altT ?_ ?_; first | omega | (simp only [List.length_append, List.length_cons, List.length_nil, List.length_map, List.length_take, List.length_drop, List.length_replicate, List.length_set]; omega)) | with_reducible refine altF ?_ | with_reducible refine all fun _ => ?_ | with_reducible refine both ?_ ?_ | (with_reducible refine choT ?_ ?_; omega) | (with_reducible refine choF ?_ ?_; omega) | with_reducible refine cho (fun _ => ?_) (fun _ => ?_))
        exact ⟨_, _, _, rfl, Sub.drop_ (.cons_cons _ (.cons _ .slnil)) _, _, rfl, rfl⟩
    · have hq : ¬ q ≤ 0 := by omega
      have hp : ¬ (L.length : Int) ≤ p := by omega
      by_cases h1 : L.length = 1
      · rw [bsD_one h0 (by omega)]
        repeat' (first | with_reducible apply Stp.go | with_reducible refine imp fun _ => ?_ | (with_reducible refine hyp ?_ ?_; first | assumption | exact leftT_mem (by assumption)) | (with_reducible refine need ?_ ?_; first | trivial | omega | exact ⟨by assumption, by omega⟩ | (simp only [List.length_append, List.length_cons, List.length_nil, List.length_map, List.length_take, List.length_drop, List.length_replicate, List.length_set]; omega)) | (with_reducible refine fact ?_ ?_; first | trivial | exact ⟨rfl, rfl⟩ | kernel_rfl) | with_reducible refine choT (by assumption) ?_ | with_reducible refine choF (by assumption) ?_ | with_reducible refine choF' (by assumption) ?_ | (with_reducible refine altT ?_ ?_; first | omega | (simp only [List.length_append, List.length_cons, List.length_nil, List.length_map, List.length_take, List.length_drop, List.length_replicate, List.length_set]; omega)) | with_reducible refine altF ?_ | with_reducible refine all fun _ => ?_ | with_reducible refine both ?_ ?_ | (with_reducible refine choT ?_ ?_; omega) | (with_reducible refine choF ?_ ?_; omega) | with_reducible refine cho (fun _ => ?_) (fun _ => ?_))
        exact ⟨_, _, _, rfl, Sub.nil_own DgT (sz := 32) (by decide) [] [] [], _, rfl, rfl⟩
      · have hh := halfN_lt (n := L.length) (by omega)
        rw [bsD_two h0 (by omega)]
        have b1 : ∀ b ∈ L.take (halfN L.length), b.length ≤ 10000000000000 := fun b h => hb b (List.mem_of_mem_take h)
        have b2 : ∀ b ∈ L.drop (halfN L.length), b.length ≤ 10000000000000 := fun b h => hb b (List.mem_of_mem_drop h)
        have l1 : (L.take (halfN L.length)).length = halfN L.length := by rw [List.length_take]; omega
        have l2 : (L.drop (halfN L.length)).length = L.length - halfN L.length := by rw [List.length_drop]
        have i1 := bsD_le bits _ (L.take (halfN L.length)) p q rfl (by omega)
        have i2 := bsD_le bits _ (L.drop (halfN L.length)) (p - (halfN L.length : Nat)) (q - (halfN L.length : Nat)) rfl (by omega)
        have p1 : (L.take (halfN L.length)).length < n ∧ 0 < (L.take (halfN L.length)).length ∧ (L.take (halfN L.length)).length ≤ 1000000 ∧ (∀ b ∈ L.take (halfN L.length), b.length ≤ 10000000000000) ∧ -10000000 ≤ p - (L.take (halfN L.length)).length ∧ p ≤ 10000000 ∧ -10000000 ≤ q - (L.take (halfN L.length)).length ∧ q ≤ 10000000 := ⟨by omega, by omega, by omega, b1, by omega, by omega, by omega, by omega⟩
        have p2 : (L.drop (halfN L.length)).length < n ∧ 0 < (L.drop (halfN L.length)).length ∧ (L.drop (halfN L.length)).length ≤ 1000000 ∧ (∀ b ∈ L.drop (halfN L.length), b.length ≤ 10000000000000) ∧ -10000000 ≤ (p - (halfN L.length : Nat)) - (L.drop (halfN L.length)).length ∧ (p - (halfN L.length : Nat)) ≤ 10000000 ∧ -10000000 ≤ (q - (halfN L.length : Nat)) - (L.drop (halfN L.length)).length ∧ (q - (halfN L.length : Nat)) ≤ 10000000 := ⟨by omega, by omega, by omega, b2, by omega, by omega, by omega, by omega⟩
        repeat' (first | with_reducible apply Stp.go | with_reducible refine imp fun _ => ?_ | (with_reducible refine hyp ?_ ?_; first | assumption | exact leftT_mem (by assumption)) | (with_reducible refine need ?_ ?_; first | trivial | omega | exact ⟨by assumption, by omega⟩ | (simp only [List.length_append, List.length_cons, List.length_nil, List.length_map, List.length_take, List.length_drop, List.length_replicate, List.length_set]; omega)) | (with_reducible refine fact ?_ ?_; first | trivial | exact ⟨rfl, rfl⟩ | kernel_rfl) | with_reducible refine choT (by assumption) ?_ | with_reducible refine choF (by assumption) ?_ | with_reducible refine choF' (by assumption) ?_ | (with_reducible refine altT ?_ ?_; first | omega | (simp only [List.length_append, List.length_cons, List.length_nil, List.length_map, List.length_take, List.length_drop, List.length_replicate, List.length_set]; omega)) | with_reducible refine altF ?_ | with_reducible refine all fun _ => ?_ | with_reducible refine both ?_ ?_ | (with_reducible refine choT ?_ ?_; omega) | (with_reducible refine choF ?_ ?_; omega) | with_reducible refine cho (fun _ => ?_) (fun _ => ?_))
        exact ⟨_, _, _, rfl, subS _, _, rfl, rfl⟩
theorem ref05_Range_ok (bits : Int) (L : List (List UInt8)) (m : SM) (p q : Nat) (hp : p < q) (hq : q ≤ L.length) (hL : L.length ≤ 1000000) (hb : ∀ b ∈ L, b.length ≤ 10000000000000) :
    aPure Go.Proofs.Try.prog 45 [I .i64 bits, .lst 1 (L.map tx) m, I .i64 (p : Nat), I .i64 (q : Nat)] (.tuple [.lst 32 ((bsD bits L p q).map dgF) .ro, .val (.int .i64 0)]) := by
  refine ACalls.fin (ref05_Range.go ?_)
  unfold ref05_Range.sh
  have inst : ∀ σ : Store, EC Go.Proofs.Try.prog 91 [I .i64 bits, .lst 1 (L.map tx) m, I .i64 (p : Nat), I .i64 (q : Nat)] σ True Value (fun v => .own v (bsD bits L p q).length) (fun v => .row v DgT 32 ((bsD bits L p q).map dgF) 0 :: σ) := fun σ => ⟨fun h => ((ref05_beside_own bits _ L m p q rfl (by omega) hL hb (by omega) (by omega) (by omega) (by omega)).frame σ).mono fun x τ ⟨σ1, e1, _, v, e2, e3⟩ => ⟨v, e2, by rw [e1, e3]; rfl⟩⟩
  repeat' (first | with_reducible apply Stp.go | with_reducible refine imp fun _ => ?_ | (with_reducible refine hyp ?_ ?_; first | assumption | exact leftT_mem (by assumption)) | (with_reducible refine need ?_ ?_; first | trivial | omega | exact ⟨by assumption, by omega⟩ | (simp only [List.length_append, List.length_cons, List.length_nil, List.length_map, List.length_take, List.length_drop, List.length_replicate, List.length_set]; omega)) | (with_reducible refine fact ?_ ?_; first | trivial | exact ⟨rfl, rfl⟩ | kernel_rfl) | with_reducible refine choT (by assumption) ?_ | with_reducible refine choF (by assumption) ?_ | with_reducible refine choF' (by assumption) ?_ | (with_reducible refine altT ?_ ?_; first | omega | (simp only [List.length_append, List.length_cons, List.length_nil, List.length_map, List.length_take, List.length_drop, List.length_replicate, List.length_set]; omega)) | with_reducible refine altF ?_ | with_reducible refine all fun _ => ?_ | with_reducible refine both ?_ ?_ | (with_reducible refine choT ?_ ?_; omega) | (with_reducible refine choF ?_ ?_; omega) | with_reducible refine cho (fun _ => ?_) (fun _ => ?_))
  exact ⟨_, _, _, rfl, Sub.tuple (retOwn (Sub.refl _ _)), rfl, rfl⟩
instance {a : AV} {L : List (List UInt8)} {m : SM} {b : Int} {p q : Nat} [h : IsL a tx 1 L m] : PC Go.Proofs.Try.prog 45 [I .i64 b, a, I .i64 (p : Nat), I .i64 (q : Nat)] (p < q ∧ q ≤ L.length ∧ L.length ≤ 1000000 ∧ ∀ b ∈ L, b.length ≤ 10000000000000) (.tuple [.lst 32 ((bsD b L p q).map dgF) .ro, .val (.int .i64 0)]) := ⟨fun hl => ⟨[I .i64 b, .lst 1 (L.map tx) m, I .i64 (p : Nat), I .i64 (q : Nat)], ⟨SubV.refl _, h.sub, SubV.refl _, SubV.refl _, trivial⟩, ref05_Range_ok b L m p q hl.1 hl.2.1 hl.2.2.1 hl.2.2.2⟩⟩
end Go.Ab

/- The document's leaves held against a root. -/
set_option linter.unusedVariables false
set_option linter.unusedSimpArgs false
namespace Go.Ab
section over
variable {b : Int} {part : List (List UInt8)} {cnt : Nat} {p : Int} {path : List D32}
end over
def ref05_Over.mark : Mark := ⟨fun t => Nat.beq t 45 || Nat.beq t 47 || Nat.beq t 54 || Nat.beq t 73 || Nat.beq t 80, fun t => false, fun t => false, fun t => Nat.beq t 36 || Nat.beq t 44, fun t => false⟩
def ref05_Over.ann : Ann := ⟨fun n => [], fun n => none, fun n => none⟩
def ref05_CheckRange.mark : Mark := ⟨fun t => Nat.beq t 43, fun t => false, fun t => Nat.beq t 7, fun t => Nat.beq t 56, fun t => false⟩
def ref05_CheckRange.ann : Ann := ⟨fun n => [], fun n => none, fun n => none⟩
end Go.Ab

/- ref11.Leaves, ref11.Describe. -/
set_option linter.unusedVariables false
set_option linter.unusedSimpArgs false
namespace Go.Ab
def ref11_Leaves.mark : Mark := ⟨fun t => Nat.beq t 16, fun t => false, fun t => false, fun t => Nat.beq t 15, fun t => false⟩
def ref11_Leaves.ann : Ann := ⟨fun n => bif Nat.beq n 3 then [0, 3, 4] else [], fun n => none, fun n => none⟩
/-- 'marlstone/marlstoneref11.Leaves' -/
def ref11_Leaves.sh (a0 : AV) (σ : Store) (Q : AEnd → Store → Prop) : Prop :=
  aLoop (fun go vs σ =>
    At vs 0 fun s0 => At vs 1 fun s3 => At vs 2 fun s4 => Do (aBuiltin Go.Proofs.Try.prog .len #[22] [s0]) fun t7 =>
    Do (aBin Go.Proofs.Try.prog .lss 3 s4 t7) fun t8 =>
    aCond t8
      (Do (aIndexAddr .slice 4 s0 s4) fun t14 =>
    Do (loadF true 4 t14) fun t15 =>
    Do (aPureC Go.Proofs.Try.prog 88 [t15]) fun t16 =>
    Do (aSlLit (mkE [.val (.string ⟨#[]⟩)]) 1 1 [(0, t16)]) fun t17 =>
    aAppend 9 1 16 s3 t17 σ (subK fun t18 σ_1 =>
    Do (aBin Go.Proofs.Try.prog .add 3 s4 (.val (.int .i64 1))) fun t10 =>
    go [s0, t18, t10] σ_1))
      (Q (.ret s3) σ))
    [a0, (.val (.slice none 0 0)), (.val (.int .i64 0))] σ
theorem ref11_Leaves.eq (a0 : AV) (σ : Store) (Q : AEnd → Store → Prop) : vc (semOf Go.Proofs.Try.prog ref11_Leaves.mark) Go.Proofs.Try.f40.ntmps ref11_Leaves.ann (bodyOf Go.Proofs.Try.f40) (endK [.tmp 2] Q) (argFr [a0]) σ = ref11_Leaves.sh a0 σ Q := by kernel_rfl
theorem ref11_Leaves.go {a0 : AV} {σ : Store} {Q : AEnd → Store → Prop} (h : ref11_Leaves.sh a0 σ Q) : ACalls Go.Proofs.Try.prog 40 [a0] σ Q :=
  acalls_of_eq [.tmp 2] Go.Proofs.Try.func40 (by kernel_rfl) (by kernel_rfl) (by kernel_rfl) (by kernel_rfl) (ref11_Leaves.eq a0 σ Q) h
theorem ref11_Leaves_ok (l : List En) (m : SM) (hl : l.length ≤ 1000000) : aPure Go.Proofs.Try.prog 40 [.lst 4 (l.map En.av) m] (.lst 1 ((l.map enB).map tx) .ro) := by
  refine ACalls.fin (ref11_Leaves.go ?_)
  unfold ref11_Leaves.sh
  repeat' (first | with_reducible apply Stp.go | with_reducible refine imp fun _ => ?_ | (with_reducible refine hyp ?_ ?_; first | assumption | exact leftT_mem (by assumption)) | (with_reducible refine need ?_ ?_; first | trivial | omega | exact ⟨by assumption, by omega⟩ | (simp only [List.length_append, List.length_cons, List.length_nil, List.length_map, List.length_take, List.length_drop, List.length_replicate, List.length_set]; omega)) | (with_reducible refine fact ?_ ?_; first | trivial | exact ⟨rfl, rfl⟩ | kernel_rfl) | with_reducible refine choT (by assumption) ?_ | with_reducible refine choF (by assumption) ?_ | with_reducible refine choF' (by assumption) ?_ | (with_reducible refine altT ?_ ?_; first | omega | (simp only [List.length_append, List.length_cons, List.length_nil, List.length_map, List.length_take, List.length_drop, List.length_replicate, List.length_set]; omega)) | with_reducible refine altF ?_ | with_reducible refine all fun _ => ?_ | with_reducible refine both ?_ ?_ | (with_reducible refine choT ?_ ?_; omega) | (with_reducible refine choF ?_ ?_; omega) | with_reducible refine cho (fun _ => ?_) (fun _ => ?_))
  refine loopI (β := Nat × Value) (fun x => x.1 ≤ l.length) (fun x => [.lst 4 (l.map En.av) m, .own x.2 ((l.take x.1).map enB).length, I .i64 (x.1 : Nat)]) (fun x => [.row x.2 9 1 (((l.take x.1).map enB).map tx) 0]) (fun x => l.length - x.1) (0, .slice none 0 0) (Nat.zero_le _) (Sub.nil_own 9 (sz := 1) (by decide) [] [.lst 4 (l.map En.av) m] [I .i64 ((0 : Nat) : Int)]) ?_
  rintro ⟨i, v⟩ h1
  dsimp only at h1 ⊢
  by_cases hi : i < l.length
  · have hk : ((l.take i).map enB).length ≤ l.length := by simp; omega
    have e : (l.take (i + 1)).map enB = (l.take i).map enB ++ [enB (l.getD i default)] := by rw [take_succ_d (by omega), List.map_append]; rfl
    repeat' (first | with_reducible apply Stp.go | with_reducible refine imp fun _ => ?_ | (with_reducible refine hyp ?_ ?_; first | assumption | exact leftT_mem (by assumption)) | (with_reducible refine need ?_ ?_; first | trivial | omega | exact ⟨by assumption, by omega⟩ | (simp only [List.length_append, List.length_cons, List.length_nil, List.length_map, List.length_take, List.length_drop, List.length_replicate, List.length_set]; omega)) | (with_reducible refine fact ?_ ?_; first | trivial | exact ⟨rfl, rfl⟩ | kernel_rfl) | with_reducible refine choT (by assumption) ?_ | with_reducible refine choF (by assumption) ?_ | with_reducible refine choF' (by assumption) ?_ | (with_reducible refine altT ?_ ?_; first | omega | (simp only [List.length_append, List.length_cons, List.length_nil, List.length_map, List.length_take, List.length_drop, List.length_replicate, List.length_set]; omega)) | with_reducible refine altF ?_ | with_reducible refine all fun _ => ?_ | with_reducible refine both ?_ ?_ | (with_reducible refine choT ?_ ?_; omega) | (with_reducible refine choF ?_ ?_; omega) | with_reducible refine cho (fun _ => ?_) (fun _ => ?_))
    rename_i w
    refine again (i + 1, w) (by dsimp only; omega) (by dsimp only; omega) ?_
    dsimp only
    rw [e]
    exact Sub.refl _ _
  · have e1 : i = l.length := by omega
    subst e1
    rw [List.take_length]
    repeat' (first | with_reducible apply Stp.go | with_reducible refine imp fun _ => ?_ | (with_reducible refine hyp ?_ ?_; first | assumption | exact leftT_mem (by assumption)) | (with_reducible refine need ?_ ?_; first | trivial | omega | exact ⟨by assumption, by omega⟩ | (simp only [List.length_append, List.length_cons, List.length_nil, List.length_map, List.length_take, List.length_drop, List.length_replicate, List.length_set]; omega)) | (with_reducible refine fact ?_ ?_; first | trivial | exact ⟨rfl, rfl⟩ | kernel_rfl) | with_reducible refine choT (by assumption) ?_ | with_reducible refine choF (by assumption) ?_ | with_reducible refine choF' (by assumption) ?_ | (with_reducible refine altT ?_ ?_; first | omega | (simp only [List.length_append, List.length_cons, List.length_nil, List.length_map, List.length_take, List.length_drop, List.length_replicate, List.length_set]; omega)) | with_reducible refine altF ?_ | with_reducible refine all fun _ => ?_ | with_reducible refine both ?_ ?_ | (with_reducible refine choT ?_ ?_; omega) | (with_reducible refine choF ?_ ?_; omega) | with_reducible refine cho (fun _ => ?_) (fun _ => ?_))
    exact ⟨_, _, _, rfl, retOwn (Sub.refl _ _), rfl, rfl⟩
instance {a : AV} {l : List En} {m : SM} [h : IsL a En.av 4 l m] : PC Go.Proofs.Try.prog 40 [a] (l.length ≤ 1000000) (.lst 1 ((l.map enB).map tx) .ro) := ⟨fun hl => ⟨[.lst 4 (l.map En.av) m], ⟨h.sub, trivial⟩, ref11_Leaves_ok l m hl⟩⟩
end Go.Ab
