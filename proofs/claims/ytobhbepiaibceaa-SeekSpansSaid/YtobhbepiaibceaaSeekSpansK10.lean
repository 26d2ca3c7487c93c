/- The texts that this claim needs, part 10: a logic over abstract values, its steps, what the functions do. No condition of its own. -/
import Derived.ChangeKeysEq
import Derived.Test.YtobhbepiaibceaaSeekSpansK9
/- Arrays of bytes held against one another. -/
set_option linter.unusedVariables false
set_option linter.unusedSimpArgs false
namespace Go.Ab
abbrev bytv (b : UInt8) : Value := .int .u8 b.toNat
theorem run_items {P : Program} {e : TypeId} (he : P.underlying e = some (.int .u8)) (c c' : List UInt8) (d : Nat) (w : World) : ∀ is : List Nat, (∀ i ∈ is, i < c.length ∧ i < c'.length) →
    (Op.eqItems (d + 1) e 1 (c.map bytv).toArray (c'.map bytv).toArray is).run P w = .ok (is.all fun i => decide (c.getD i 0 = c'.getD i 0)) w
  | [], _ => by simp [Op.eqItems]
  | i :: is, h => by
    obtain ⟨h1, h2⟩ := h i List.mem_cons_self
    have ih := run_items he c c' d w is fun j hj => h j (List.mem_cons_of_mem _ hj)
    have p1 : (part e (c.map bytv).toArray (i * 1)).run P w = .ok (bytv (c.getD i 0)) w := part_plain he rfl (by simp [List.getD_eq_getElem?_getD, h1]) w
    have p2 : (part e (c'.map bytv).toArray (i * 1)).run P w = .ok (bytv (c'.getD i 0)) w := part_plain he rfl (by simp [List.getD_eq_getElem?_getD, h2]) w
    have p3 : (Op.equalIn (d + 1) e (bytv (c.getD i 0)) (bytv (c'.getD i 0))).run P w = .ok (decide (c.getD i 0 = c'.getD i 0)) w := by
      rw [run_equalIn_int w d e .u8 .u8 _ _ he]
      congr 1
      rw [Bool.eq_iff_iff, beq_iff_eq, decide_eq_true_eq]
      constructor
      · intro h; exact UInt8.toNat_inj.1 (Int.ofNat.inj h)
      · intro h; rw [h]
    simp only [Op.eqItems, Sem.run_bind, p1, p2, p3, Result.andThen_ok, List.all_cons]
    by_cases hh : c.getD i 0 = c'.getD i 0
    · rw [decide_eq_true hh]; simpa using ih
    · rw [decide_eq_false hh]; simp
theorem all_same {c c' : List UInt8} {n : Nat} (h : c.length = n) (h' : c'.length = n) : ((List.range n).all fun i => decide (c.getD i 0 = c'.getD i 0)) = decide (c = c') := by
  rw [Bool.eq_iff_iff, List.all_eq_true, decide_eq_true_eq]
  constructor
  · intro hh
    apply List.ext_getElem (by omega)
    intro i h1 h2
    have := hh i (List.mem_range.2 (by omega))
    simpa [List.getD_eq_getElem?_getD, h1, h2] using this
  · rintro rfl i _; simp
class ArrB (P : Program) (t : TypeId) (n : outParam Nat) : Prop where
  h : ∃ e, P.underlying t = some (.array n e) ∧ P.underlying e = some (.int .u8) ∧ (P.info? e).isSome = true ∧ P.cellsOf e = 1 ∧ P.eqGuardType P.depth t = false
theorem allVals_byt (c : List UInt8) : allVals (c.map byt) = some (c.map bytv) := by
  induction c with
  | nil => rfl
  | cons a c ih => simp [allVals, ih, byt]
theorem arr_plain (c : List UInt8) : plainV (.agg (c.map byt)) = some (.agg (c.map bytv).toArray) := by
  simp [plainV, allVals_byt]
section arr
variable {P : Program} {t : TypeId} {n : Nat} {c c' : List UInt8} {K : AV → Prop}
theorem run_arr [h : ArrB P t n] (h1 : c.length = n) (h2 : c'.length = n) (w : World) : (Op.equalIn 10000 t (.agg (c.map bytv).toArray) (.agg (c'.map bytv).toArray)).run P w = .ok (decide (c = c')) w := by
  obtain ⟨e, g1, g2, g3, g4, g5⟩ := h.h
  obtain ⟨i, g3⟩ := Option.isSome_iff_exists.1 g3
  show (Op.equalIn (9998 + 1 + 1) t _ _).run P w = _
  rw [run_equalIn_array w (9998 + 1) _ _ g1 g3, g4, run_items g2 c c' 9998 w _ (fun i hi => by have := List.mem_range.1 hi; omega), all_same h1 h2]
instance eqArr [h : ArrB P t n] : Stp (Do (aBin P .eql t (.agg (c.map byt)) (.agg (c'.map byt))) K) (Need (c.length = n ∧ c'.length = n) (K (.val (.bool (decide (c = c')))))) := ⟨fun ⟨⟨h1, h2⟩, hK⟩ => by
  refine ⟨_, (aBin_plain (arr_plain c) (arr_plain c') fun xo yo w => ?_).2 rfl, hK⟩
  obtain ⟨e, g1, g2, g3, g4, g5⟩ := h.h
  simp only [Sem.run_bind, run_eqGuard_agg w .eql t xo yo _ _ g5, Result.andThen_ok, run_eql_struct, run_arr (t := t) h1 h2 w, Result.andThen_ok]⟩
end arr
instance : ArrB Go.Proofs.Try.prog 46 32 := ⟨⟨5, by kernel_rfl, by kernel_rfl, by kernel_rfl, by kernel_rfl, by kernel_rfl⟩⟩
end Go.Ab

/- A leaf held against a root. -/
set_option linter.unusedVariables false
set_option linter.unusedSimpArgs false
namespace Go.Ab
instance (priority := 75) ldFD {l : List UInt8} {K : AV → Prop} [hl : Len32 l] : Stp (Do (loadF true 32 (.rptr (l.map byt))) K) (K (dgA l)) := ⟨fun hK => ⟨_, ⟨by decide, fun h => by (cases h), by simp [hl.len], by
  rw [List.take_of_length_le (by simp [hl.len])]; rfl⟩, hK⟩⟩
def tree_Tree_swapped.mark : Mark := ⟨fun t => false, fun t => false, fun t => Nat.beq t 3 || Nat.beq t 4 || Nat.beq t 5, fun t => Nat.beq t 7 || Nat.beq t 8 || Nat.beq t 9, fun t => false⟩
def tree_Tree_swapped.ann : Ann := ⟨fun n => [], fun n => none, fun n => none⟩
/-- '(marlstone/tree.Tree).swapped' -/
def tree_Tree_swapped.sh (a0 a1 a2 : AV) (σ : Store) (Q : AEnd → Store → Prop) : Prop :=
  Do (aFreeze ((a0 : AV)).cells) fun t3 =>
  Do (aFreeze ((a1 : AV)).cells) fun t4 =>
  Do (aFreeze ((a2 : AV)).cells) fun t5 =>
  aNewVar 46 [.val (.int .u8 0), .val (.int .u8 0), .val (.int .u8 0), .val (.int .u8 0), .val (.int .u8 0), .val (.int .u8 0), .val (.int .u8 0), .val (.int .u8 0), .val (.int .u8 0), .val (.int .u8 0), .val (.int .u8 0), .val (.int .u8 0), .val (.int .u8 0), .val (.int .u8 0), .val (.int .u8 0), .val (.int .u8 0), .val (.int .u8 0), .val (.int .u8 0), .val (.int .u8 0), .val (.int .u8 0), .val (.int .u8 0), .val (.int .u8 0), .val (.int .u8 0), .val (.int .u8 0), .val (.int .u8 0), .val (.int .u8 0), .val (.int .u8 0), .val (.int .u8 0), .val (.int .u8 0), .val (.int .u8 0), .val (.int .u8 0), .val (.int .u8 0)] σ fun t6 σ =>
  Do (loadF true 1 t3) fun t7 =>
  Do (loadF true 32 t5) fun t8 =>
  Do (loadF true 32 t4) fun t9 =>
  aCall Go.Proofs.Try.prog 71 [t7, t8, t9] σ (fun t10 σ_1 =>
  storeA 32 t6 t10 σ_1 fun u σ_2 =>
  Do (loadA true 32 t6 σ_2) fun r6 => Q (.ret r6) σ_2) (fun e σ_3 => Q (.pan e) σ_3)
theorem tree_Tree_swapped.eq (a0 a1 a2 : AV) (σ : Store) (Q : AEnd → Store → Prop) : vc (semOf Go.Proofs.Try.prog tree_Tree_swapped.mark) Go.Proofs.Try.f103.ntmps tree_Tree_swapped.ann (bodyOf Go.Proofs.Try.f103) (endK [.cell 6 true 32] Q) (argFr [a0, a1, a2]) σ = tree_Tree_swapped.sh a0 a1 a2 σ Q := by kernel_rfl
theorem tree_Tree_swapped.go {a0 a1 a2 : AV} {σ : Store} {Q : AEnd → Store → Prop} (h : tree_Tree_swapped.sh a0 a1 a2 σ Q) : ACalls Go.Proofs.Try.prog 103 [a0, a1, a2] σ Q :=
  acalls_of_eq [.cell 6 true 32] Go.Proofs.Try.func103 (by kernel_rfl) (by kernel_rfl) (by kernel_rfl) (by kernel_rfl) (tree_Tree_swapped.eq a0 a1 a2 σ Q) h
def tree_Tree_Check.mark : Mark := ⟨fun t => false, fun t => false, fun t => Nat.beq t 6 || Nat.beq t 7, fun t => Nat.beq t 50 || Nat.beq t 59 || Nat.beq t 68 || Nat.beq t 74, fun t => false⟩
def tree_Tree_Check.ann : Ann := ⟨fun n => bif Nat.beq n 4 then [2, 3, 4, 5, 6, 7, 13] else bif Nat.beq n 13 then [6, 7, 13, 15, 53, 54, 55] else [], fun n => none, fun n => none⟩
/-- '(marlstone/tree.Tree).Check' -/
def tree_Tree_Check.sh (a0 a1 a2 a3 a4 a5 : AV) (σ : Store) (Q : AEnd → Store → Prop) : Prop :=
  Do (aFreeze ((a0 : AV)).cells) fun t6 =>
  Do (aFreeze ((a1 : AV)).cells) fun t7 =>
  Do (aBin Go.Proofs.Try.prog .lss 3 a3 (.val (.int .i64 0))) fun t19 =>
  Do (aGuard t19 false (aIs a3)) fun t21 =>
  Do (aGuard t19 false (aIs a2)) fun t22 =>
  Do (aGuard t19 false (aBin Go.Proofs.Try.prog .geq 3 t21 t22)) fun t23 =>
  Do (aPick t19 (.val (.bool true)) t23) fun t24 =>
  aCond t24
    (Q (.ret (.val (.bool false))) σ)
    (aLoop (fun go vs σ =>
    At vs 0 fun s2 => At vs 1 fun s3 => At vs 2 fun s4 => At vs 3 fun s5 => At vs 4 fun s6 => At vs 5 fun s7 => At vs 6 fun s13 => Do (aBin Go.Proofs.Try.prog .gtr 3 s2 (.val (.int .i64 1))) fun t26 =>
    aCond t26
      (aCall Go.Proofs.Try.prog 100 [s2] σ (fun t28 σ_1 =>
    Do (aBin Go.Proofs.Try.prog .lss 3 s3 t28) fun t31 =>
    aCond t31
      (Do (aSlLit (mkE [.val .nilFunc]) 1 1 [(0, (.val (.func (.func 71) #[] #[])))]) fun t33 =>
      aAppend 145 1 8 s13 t33 σ_1 (subK fun t34 σ_2 =>
      go [t28, s3, s4, s5, s6, s7, t34] σ_2))
      (Do (aSlLit (mkE [.val .nilFunc]) 1 1 [(0, (.val (.func (.func 103) #[] #[])))]) fun t37 =>
      aAppend 145 1 8 s13 t37 σ_1 (subK fun t38 σ_3 =>
      Do (aBin Go.Proofs.Try.prog .sub 3 s2 t28) fun t41 =>
      Do (aBin Go.Proofs.Try.prog .sub 3 s3 t28) fun t44 =>
      go [t41, t44, s4, s5, s6, s7, t38] σ_3))) (fun e σ_4 => Q (.pan e) σ_4))
      (Do (aBuiltin Go.Proofs.Try.prog .len #[28] [s5]) fun t46 =>
  Do (aBuiltin Go.Proofs.Try.prog .len #[144] [s13]) fun t48 =>
  Do (aBin Go.Proofs.Try.prog .neq 3 t46 t48) fun t49 =>
  aCond t49
    (Q (.ret (.val (.bool false))) σ)
    (Do (loadF true 1 s6) fun t50 =>
  aCall Go.Proofs.Try.prog 66 [t50, s4] σ (fun t52 σ_5 =>
  aNewVar 46 [.val (.int .u8 0), .val (.int .u8 0), .val (.int .u8 0), .val (.int .u8 0), .val (.int .u8 0), .val (.int .u8 0), .val (.int .u8 0), .val (.int .u8 0), .val (.int .u8 0), .val (.int .u8 0), .val (.int .u8 0), .val (.int .u8 0), .val (.int .u8 0), .val (.int .u8 0), .val (.int .u8 0), .val (.int .u8 0), .val (.int .u8 0), .val (.int .u8 0), .val (.int .u8 0), .val (.int .u8 0), .val (.int .u8 0), .val (.int .u8 0), .val (.int .u8 0), .val (.int .u8 0), .val (.int .u8 0), .val (.int .u8 0), .val (.int .u8 0), .val (.int .u8 0), .val (.int .u8 0), .val (.int .u8 0), .val (.int .u8 0), .val (.int .u8 0)] σ_5 fun t15 σ_6 =>
  storeA 32 t15 t52 σ_6 fun u σ_7 =>
  Do (aBuiltin Go.Proofs.Try.prog .len #[28] [s5]) fun t54 =>
  aLoop (fun go_1 vs_1 σ_8 =>
    At vs_1 0 fun s6_1 => At vs_1 1 fun s7_1 => At vs_1 2 fun s13_1 => At vs_1 3 fun s15 => At vs_1 4 fun s53 => At vs_1 5 fun s54 => At vs_1 6 fun s55 => Do (aBin Go.Proofs.Try.prog .lss 3 s55 s54) fun t56 =>
    aCond t56
      (Do (aIndexAddr .slice 32 s53 s55) fun t58 =>
    Do (loadF true 32 t58) fun t59 =>
    aNewVar 46 [.val (.int .u8 0), .val (.int .u8 0), .val (.int .u8 0), .val (.int .u8 0), .val (.int .u8 0), .val (.int .u8 0), .val (.int .u8 0), .val (.int .u8 0), .val (.int .u8 0), .val (.int .u8 0), .val (.int .u8 0), .val (.int .u8 0), .val (.int .u8 0), .val (.int .u8 0), .val (.int .u8 0), .val (.int .u8 0), .val (.int .u8 0), .val (.int .u8 0), .val (.int .u8 0), .val (.int .u8 0), .val (.int .u8 0), .val (.int .u8 0), .val (.int .u8 0), .val (.int .u8 0), .val (.int .u8 0), .val (.int .u8 0), .val (.int .u8 0), .val (.int .u8 0), .val (.int .u8 0), .val (.int .u8 0), .val (.int .u8 0), .val (.int .u8 0)] σ_8 fun t17 σ_9 =>
    storeA 32 t17 t59 σ_9 fun u_1 σ_10 =>
    Do (aBuiltin Go.Proofs.Try.prog .len #[144] [s13_1]) fun t62 =>
    Do (aBin Go.Proofs.Try.prog .sub 3 t62 (.val (.int .i64 1))) fun t63 =>
    Do (aBin Go.Proofs.Try.prog .sub 3 t63 s55) fun t65 =>
    Do (aIndexAddr .slice 1 s13_1 t65) fun t66 =>
    Do (loadA false 1 t66 σ_10) fun t67 =>
    Do (loadF true 1 s6_1) fun t68 =>
    Do (loadA true 32 s15 σ_10) fun t69 =>
    Do (loadA true 32 t17 σ_10) fun t70 =>
    aCallV Go.Proofs.Try.prog t67 [t68, t69, t70] σ_10 (fun t71 σ_11 =>
    storeA 32 s15 t71 σ_11 fun u_2 σ_12 =>
    Do (aBin Go.Proofs.Try.prog .add 3 s55 (.val (.int .i64 1))) fun t72 =>
    go_1 [s6_1, s7_1, s13_1, s15, s53, s54, t72] σ_12) (fun e_1 σ_13 => Q (.pan e_1) σ_13))
      (Do (loadA true 32 s15 σ_8) fun t73 =>
  Do (loadF true 32 s7_1) fun t74 =>
  Do (aBin Go.Proofs.Try.prog .eql 46 t73 t74) fun t75 =>
  Q (.ret t75) σ_8))
    [s6, s7, s13, t15, s5, t54, (.val (.int .i64 0))] σ_7) (fun e_2 σ_14 => Q (.pan e_2) σ_14))))
    [a2, a3, a4, a5, t6, t7, (.val (.slice none 0 0))] σ)
theorem tree_Tree_Check.eq (a0 a1 a2 a3 a4 a5 : AV) (σ : Store) (Q : AEnd → Store → Prop) : vc (semOf Go.Proofs.Try.prog tree_Tree_Check.mark) Go.Proofs.Try.f64.ntmps tree_Tree_Check.ann (bodyOf Go.Proofs.Try.f64) (endK [.tmp 12] Q) (argFr [a0, a1, a2, a3, a4, a5]) σ = tree_Tree_Check.sh a0 a1 a2 a3 a4 a5 σ Q := by kernel_rfl
theorem tree_Tree_Check.go {a0 a1 a2 a3 a4 a5 : AV} {σ : Store} {Q : AEnd → Store → Prop} (h : tree_Tree_Check.sh a0 a1 a2 a3 a4 a5 σ Q) : ACalls Go.Proofs.Try.prog 64 [a0, a1, a2, a3, a4, a5] σ Q :=
  acalls_of_eq [.tmp 12] Go.Proofs.Try.func64 (by kernel_rfl) (by kernel_rfl) (by kernel_rfl) (by kernel_rfl) (tree_Tree_Check.eq a0 a1 a2 a3 a4 a5 σ Q) h
theorem swapped_ok (bits : Int) (r l : List UInt8) [hl : Len32 l] [hr : Len32 r] : aPure Go.Proofs.Try.prog 103 [trA bits, dgA r, dgA l] (dgA (nodeD bits l r)) := by
  refine ACalls.fin (tree_Tree_swapped.go ?_)
  unfold tree_Tree_swapped.sh
  have h1 := hl.len
  have h2 := hr.len
  have h32 : (nodeD bits l r).length = 32 := Len32.len
  repeat' (first | with_reducible apply Stp.go | with_reducible refine imp fun _ => ?_ | (with_reducible refine hyp ?_ ?_; first | assumption | exact leftT_mem (by assumption)) | (with_reducible refine need ?_ ?_; first | trivial | omega | exact ⟨by assumption, by omega⟩ | (simp only [List.length_append, List.length_cons, List.length_nil, List.length_map, List.length_take, List.length_drop, List.length_replicate, List.length_set]; omega)) | (with_reducible refine fact ?_ ?_; first | trivial | exact ⟨rfl, rfl⟩ | kernel_rfl) | with_reducible refine choT (by assumption) ?_ | with_reducible refine choF (by assumption) ?_ | with_reducible refine choF' (by assumption) ?_ | (with_reducible refine altT ?_ ?_; first | omega | (simp only [List.length_append, List.length_cons, List.length_nil, List.length_map, List.length_take, List.length_drop, List.length_replicate, List.length_set]; omega)) | with_reducible refine altF ?_ | with_reducible refine all fun _ => ?_ | with_reducible refine both ?_ ?_ | (with_reducible refine choT ?_ ?_; omega) | (with_reducible refine choF ?_ ?_; omega) | with_reducible refine cho (fun _ => ?_) (fun _ => ?_))
  exact ⟨_, _, _, rfl, Sub.app_nil _, rfl, rfl⟩
instance {l r : List UInt8} {b : Int} [hl : Len32 l] [hr : Len32 r] : PC Go.Proofs.Try.prog 103 [trA b, dgA r, dgA l] True (dgA (nodeD b l r)) := ⟨fun _ => PC.of (swapped_ok b r l)⟩
/-- The way down to a leaf: to the left, or not. -/
def upL (cnt i : Nat) : List Bool :=
  if h : cnt ≤ 1 then []
  else if i < halfN cnt then true :: upL (halfN cnt) i
  else false :: upL (cnt - halfN cnt) (i - halfN cnt)
termination_by cnt
decreasing_by
  · have := halfN_lt (n := cnt) (by omega); omega
  · have := halfN_lt (n := cnt) (by omega); omega
/-- The node of what one has and what stands beside it. -/
def stepD (b : Int) (u : Bool) (d x : D32) : D32 := if u = true then ⟨nodeD b d.val x.val, Len32.len⟩ else ⟨nodeD b x.val d.val, Len32.len⟩
/-- The way up. -/
def climb (b : Int) : List Bool → List D32 → D32 → D32
  | u :: us, x :: xs, d => climb b us xs (stepD b u d x)
  | _, _, d => d
theorem climb_step (b : Int) {U : List Bool} {path : List D32} (d : D32) {q : Nat} (hp : path.length = U.length) (hq : q < path.length) : climb b (U.reverse.drop q) (path.drop q) d = climb b (U.reverse.drop (q + 1)) (path.drop (q + 1)) (stepD b (U.getD (U.length - 1 - q) default) d (path.getD q default)) := by
  have h1 : q < U.reverse.length := by rw [List.length_reverse]; omega
  rw [List.drop_eq_getElem_cons h1, List.drop_eq_getElem_cons hq]
  show climb b _ _ (stepD b _ d _) = _
  have e1 : U.reverse[q] = U.getD (U.length - 1 - q) default := by
    rw [List.getElem_reverse, List.getD_eq_getElem?_getD, List.getElem?_eq_getElem (by omega)]; rfl
  have e2 : path[q] = path.getD q default := by rw [List.getD_eq_getElem?_getD, List.getElem?_eq_getElem hq]; rfl
  rw [e1, e2]
def fnU (u : Bool) : AV := .val (.func (.func (bif u then 71 else 103)) #[] #[])
instance : Enc fnU 1 := ⟨fun u => ⟨rfl, fun c hc => by rw [List.mem_singleton.1 (show c ∈ [fnU u] from hc)]; rfl⟩, by decide, fun _ => rfl⟩
instance : ElemF [.val .nilFunc] Bool fnU := ⟨trivial⟩
instance : AsF fnU (.val (.func (.func 71) #[] #[])) true := ⟨rfl⟩
instance : AsF fnU (.val (.func (.func 103) #[] #[])) false := ⟨rfl⟩
instance (u : Bool) : Cells (fnU u) [fnU u] := ⟨rfl⟩
theorem upL_log : ∀ (m cnt i : Nat), cnt ≤ 2 ^ m → (upL cnt i).length ≤ m := by
  intro m
  induction m with
  | zero =>
    intro cnt i h
    unfold upL
    rw [dif_pos (by simpa using h)]
    simp
  | succ m ih =>
    intro cnt i h
    unfold upL
    split
    · simp
    · rename_i h1
      obtain ⟨h2, h3⟩ := halfN_log (n := cnt) (by omega) h
      split
      · have := ih _ i h2
        simp only [List.length_cons]; omega
      · have := ih _ (i - halfN cnt) h3
        simp only [List.length_cons]; omega
theorem upL_63 {cnt : Nat} (h : cnt ≤ 9223372036854775807) (i : Nat) : (upL cnt i).length ≤ 63 := upL_log 63 cnt i (by simpa using Nat.le_of_lt (Nat.lt_succ_of_le h))
/-- Is a leaf under a root. -/
def checkB (b : Int) (root : D32) (cnt i : Nat) (leaf : List UInt8) (path : List D32) : Bool :=
  decide (path.length = (upL cnt i).length) && decide ((climb b (upL cnt i).reverse path ⟨leafD b leaf, Len32.len⟩).val = root.val)
theorem Check_nat (b : Int) (root : List UInt8) [hr : Len32 root] (cnt i : Nat) (leaf : List UInt8) (m m' : SM) (path : List D32) (hi : i < cnt) (hc : cnt ≤ 9223372036854775807) (hl : leaf.length ≤ 100000000000000) :
    aPure Go.Proofs.Try.prog 64 [trA b, dgA root, I .i64 (cnt : Nat), I .i64 (i : Nat), .lst 1 (leaf.map byt) m, .lst 32 (path.map dgF) m'] (B (checkB b ⟨root, hr.len⟩ cnt i leaf path)) := by
  refine ACalls.fin (tree_Tree_Check.go ?_)
  unfold tree_Tree_Check.sh
  repeat' (first | with_reducible apply Stp.go | with_reducible refine imp fun _ => ?_ | (with_reducible refine hyp ?_ ?_; first | assumption | exact leftT_mem (by assumption)) | (with_reducible refine need ?_ ?_; first | trivial | omega | exact ⟨by assumption, by omega⟩ | (simp only [List.length_append, List.length_cons, List.length_nil, List.length_map, List.length_take, List.length_drop, List.length_replicate, List.length_set]; omega)) | (with_reducible refine fact ?_ ?_; first | trivial | exact ⟨rfl, rfl⟩ | kernel_rfl) | with_reducible refine choT (by assumption) ?_ | with_reducible refine choF (by assumption) ?_ | with_reducible refine choF' (by assumption) ?_ | (with_reducible refine altT ?_ ?_; first | omega | (simp only [List.length_append, List.length_cons, List.length_nil, List.length_map, List.length_take, List.length_drop, List.length_replicate, List.length_set]; omega)) | with_reducible refine altF ?_ | with_reducible refine all fun _ => ?_ | with_reducible refine both ?_ ?_ | (with_reducible refine choT ?_ ?_; omega) | (with_reducible refine choF ?_ ?_; omega) | with_reducible refine cho (fun _ => ?_) (fun _ => ?_))
  refine loopI (β := Nat × Nat × Value × List Bool) (fun x => x.2.1 < x.1 ∧ x.1 ≤ cnt ∧ x.2.2.2 ++ upL x.1 x.2.1 = upL cnt i) (fun x => [I .i64 (x.1 : Nat), I .i64 (x.2.1 : Nat), .lst 1 (leaf.map byt) m, .lst 32 (path.map dgF) m', .rptr [I .i64 b], .rptr (root.map byt), .own x.2.2.1 x.2.2.2.length]) (fun x => [.row x.2.2.1 145 1 (x.2.2.2.map fnU) 0]) (fun x => x.1) (cnt, i, .slice none 0 0, []) ⟨hi, Nat.le_refl _, rfl⟩ (Sub.nil_own 145 (sz := 1) (by decide) [] [I .i64 (cnt : Nat), I .i64 (i : Nat), .lst 1 (leaf.map byt) m, .lst 32 (path.map dgF) m', .rptr [I .i64 b], .rptr (root.map byt)] []) ?_
  rintro ⟨n, j, v, us⟩ ⟨h1, h2, h3⟩
  dsimp only at h1 h2 h3 ⊢
  have hul := upL_63 hc i
  have hus : us.length ≤ 63 := by have := congrArg List.length h3; rw [List.length_append] at this; omega
  by_cases h4 : n ≤ 1
  · have e : upL n j = [] := by unfold upL; rw [dif_pos h4]
    rw [e, List.append_nil] at h3
    subst h3
    have hk : (leafD b leaf).length = 32 := Len32.len
    have hr2 := hr.len
    by_cases hp : path.length = (upL cnt i).length
    · generalize hU : upL cnt i = U at *
      have e0 : checkB b ⟨root, hr.len⟩ cnt i leaf path = decide ((climb b U.reverse path ⟨leafD b leaf, hk⟩).val = root) := by
        rw [checkB, hU, decide_eq_true hp, Bool.true_and]
      rw [e0]
      repeat' (first | with_reducible apply Stp.go | with_reducible refine imp fun _ => ?_ | (with_reducible refine hyp ?_ ?_; first | assumption | exact leftT_mem (by assumption)) | (with_reducible refine need ?_ ?_; first | trivial | omega | exact ⟨by assumption, by omega⟩ | (simp only [List.length_append, List.length_cons, List.length_nil, List.length_map, List.length_take, List.length_drop, List.length_replicate, List.length_set]; omega)) | (with_reducible refine fact ?_ ?_; first | trivial | exact ⟨rfl, rfl⟩ | kernel_rfl) | with_reducible refine choT (by assumption) ?_ | with_reducible refine choF (by assumption) ?_ | with_reducible refine choF' (by assumption) ?_ | (with_reducible refine altT ?_ ?_; first | omega | (simp only [List.length_append, List.length_cons, List.length_nil, List.length_map, List.length_take, List.length_drop, List.length_replicate, List.length_set]; omega)) | with_reducible refine altF ?_ | with_reducible refine all fun _ => ?_ | with_reducible refine both ?_ ?_ | (with_reducible refine choT ?_ ?_; omega) | (with_reducible refine choF ?_ ?_; omega) | with_reducible refine cho (fun _ => ?_) (fun _ => ?_))
      refine loopI (β := Nat × D32) (fun x => x.1 ≤ path.length ∧ climb b (U.reverse.drop x.1) (path.drop x.1) x.2 = climb b U.reverse path ⟨leafD b leaf, hk⟩) (fun x => [.rptr [I .i64 b], .rptr (root.map byt), .own v U.length, ptrAt _ 0, .lst 32 (path.map dgF) m', I .i64 (path.length : Nat), I .i64 (x.1 : Nat)]) (fun x => [.var _ DgT (x.2.val.map byt), .row v 145 1 (U.map fnU) 0]) (fun x => path.length - x.1) (0, ⟨leafD b leaf, hk⟩) ⟨Nat.zero_le _, rfl⟩ (Sub.refl _ _) ?_
      rintro ⟨q, d⟩ ⟨g1, g2⟩
      dsimp only at g1 g2 ⊢
      have gd := d.len
      by_cases g3 : q < path.length
      · have g4 : U.length - 1 - q < U.length := by omega
        have gp := (path.getD q default).len
        have gs := climb_step b d hp g3
        have n1 : (nodeD b d.val (path.getD q default).val).length = 32 := Len32.len
        have n2 : (nodeD b (path.getD q default).val d.val).length = 32 := Len32.len
        cases hu : U.getD (U.length - 1 - q) default with
        | true =>
          repeat' (first | with_reducible apply Stp.go | with_reducible refine imp fun _ => ?_ | (with_reducible refine hyp ?_ ?_; first | assumption | exact leftT_mem (by assumption)) | (with_reducible refine need ?_ ?_; first | trivial | omega | exact ⟨by assumption, by omega⟩ | (simp only [List.length_append, List.length_cons, List.length_nil, List.length_map, List.length_take, List.length_drop, List.length_replicate, List.length_set]; omega)) | (with_reducible refine fact ?_ ?_; first | trivial | exact ⟨rfl, rfl⟩ | kernel_rfl) | with_reducible refine choT (by assumption) ?_ | with_reducible refine choF (by assumption) ?_ | with_reducible refine choF' (by assumption) ?_ | (with_reducible refine altT ?_ ?_; first | omega | (simp only [List.length_append, List.length_cons, List.length_nil, List.length_map, List.length_take, List.length_drop, List.length_replicate, List.length_set]; omega)) | with_reducible refine altF ?_ | with_reducible refine all fun _ => ?_ | with_reducible refine both ?_ ?_ | (with_reducible refine choT ?_ ?_; omega) | (with_reducible refine choF ?_ ?_; omega) | with_reducible refine cho (fun _ => ?_) (fun _ => ?_))
          rw [hu, show fnU true = .val (.func (.func 71) #[] #[]) from rfl]
          repeat' (first | with_reducible apply Stp.go | with_reducible refine imp fun _ => ?_ | (with_reducible refine hyp ?_ ?_; first | assumption | exact leftT_mem (by assumption)) | (with_reducible refine need ?_ ?_; first | trivial | omega | exact ⟨by assumption, by omega⟩ | (simp only [List.length_append, List.length_cons, List.length_nil, List.length_map, List.length_take, List.length_drop, List.length_replicate, List.length_set]; omega)) | (with_reducible refine fact ?_ ?_; first | trivial | exact ⟨rfl, rfl⟩ | kernel_rfl) | with_reducible refine choT (by assumption) ?_ | with_reducible refine choF (by assumption) ?_ | with_reducible refine choF' (by assumption) ?_ | (with_reducible refine altT ?_ ?_; first | omega | (simp only [List.length_append, List.length_cons, List.length_nil, List.length_map, List.length_take, List.length_drop, List.length_replicate, List.length_set]; omega)) | with_reducible refine altF ?_ | with_reducible refine all fun _ => ?_ | with_reducible refine both ?_ ?_ | (with_reducible refine choT ?_ ?_; omega) | (with_reducible refine choF ?_ ?_; omega) | with_reducible refine cho (fun _ => ?_) (fun _ => ?_))
          rw [hu] at gs
          refine again (q + 1, ⟨nodeD b d.val (path.getD q default).val, n1⟩) (by dsimp only; omega) ⟨by dsimp only; omega, ?_⟩ (Sub.drop_ (List.sublist_cons_self _ _) _)
          dsimp only
          rw [← g2, gs]
          rfl
        | false =>
          repeat' (first | with_reducible apply Stp.go | with_reducible refine imp fun _ => ?_ | (with_reducible refine hyp ?_ ?_; first | assumption | exact leftT_mem (by assumption)) | (with_reducible refine need ?_ ?_; first | trivial | omega | exact ⟨by assumption, by omega⟩ | (simp only [List.length_append, List.length_cons, List.length_nil, List.length_map, List.length_take, List.length_drop, List.length_replicate, List.length_set]; omega)) | (with_reducible refine fact ?_ ?_; first | trivial | exact ⟨rfl, rfl⟩ | kernel_rfl) | with_reducible refine choT (by assumption) ?_ | with_reducible refine choF (by assumption) ?_ | with_reducible refine choF' (by assumption) ?_ | (with_reducible refine altT ?_ ?_; first | omega | (simp only [List.length_append, List.length_cons, List.length_nil, List.length_map, List.length_take, List.length_drop, List.length_replicate, List.length_set]; omega)) | with_reducible refine altF ?_ | with_reducible refine all fun _ => ?_ | with_reducible refine both ?_ ?_ | (with_reducible refine choT ?_ ?_; omega) | (with_reducible refine choF ?_ ?_; omega) | with_reducible refine cho (fun _ => ?_) (fun _ => ?_))
          rw [hu, show fnU false = .val (.func (.func 103) #[] #[]) from rfl]
          repeat' (first | with_reducible apply Stp.go | with_reducible refine imp fun _ => ?_ | (with_reducible refine hyp ?_ ?_; first | assumption | exact leftT_mem (by assumption)) | (with_reducible refine need ?_ ?_; first | trivial | omega | exact ⟨by assumption, by omega⟩ | (simp only [List.length_append, List.length_cons, List.length_nil, List.length_map, List.length_take, List.length_drop, List.length_replicate, List.length_set]; omega)) | (with_reducible refine fact ?_ ?_; first | trivial | exact ⟨rfl, rfl⟩ | kernel_rfl) | with_reducible refine choT (by assumption) ?_ | with_reducible refine choF (by assumption) ?_ | with_reducible refine choF' (by assumption) ?_ | (with_reducible refine altT ?_ ?_; first | omega | (simp only [List.length_append, List.length_cons, List.length_nil, List.length_map, List.length_take, List.length_drop, List.length_replicate, List.length_set]; omega)) | with_reducible refine altF ?_ | with_reducible refine all fun _ => ?_ | with_reducible refine both ?_ ?_ | (with_reducible refine choT ?_ ?_; omega) | (with_reducible refine choF ?_ ?_; omega) | with_reducible refine cho (fun _ => ?_) (fun _ => ?_))
          rw [hu] at gs
          refine again (q + 1, ⟨nodeD b (path.getD q default).val d.val, n2⟩) (by dsimp only; omega) ⟨by dsimp only; omega, ?_⟩ (Sub.drop_ (List.sublist_cons_self _ _) _)
          dsimp only
          rw [← g2, gs]
          rfl
      · have g4 : q = path.length := by omega
        subst g4
        rw [List.drop_length] at g2
        have g5 : climb b (U.reverse.drop path.length) [] d = d := by
          cases U.reverse.drop path.length <;> rfl
        rw [g5] at g2
        rw [← g2]
        repeat' (first | with_reducible apply Stp.go | with_reducible refine imp fun _ => ?_ | (with_reducible refine hyp ?_ ?_; first | assumption | exact leftT_mem (by assumption)) | (with_reducible refine need ?_ ?_; first | trivial | omega | exact ⟨by assumption, by omega⟩ | (simp only [List.length_append, List.length_cons, List.length_nil, List.length_map, List.length_take, List.length_drop, List.length_replicate, List.length_set]; omega)) | (with_reducible refine fact ?_ ?_; first | trivial | exact ⟨rfl, rfl⟩ | kernel_rfl) | with_reducible refine choT (by assumption) ?_ | with_reducible refine choF (by assumption) ?_ | with_reducible refine choF' (by assumption) ?_ | (with_reducible refine altT ?_ ?_; first | omega | (simp only [List.length_append, List.length_cons, List.length_nil, List.length_map, List.length_take, List.length_drop, List.length_replicate, List.length_set]; omega)) | with_reducible refine altF ?_ | with_reducible refine all fun _ => ?_ | with_reducible refine both ?_ ?_ | (with_reducible refine choT ?_ ?_; omega) | (with_reducible refine choF ?_ ?_; omega) | with_reducible refine cho (fun _ => ?_) (fun _ => ?_))
        exact ⟨_, _, _, rfl, Sub.app_nil _, rfl, rfl⟩
    · repeat' (first | with_reducible apply Stp.go | with_reducible refine imp fun _ => ?_ | (with_reducible refine hyp ?_ ?_; first | assumption | exact leftT_mem (by assumption)) | (with_reducible refine need ?_ ?_; first | trivial | omega | exact ⟨by assumption, by omega⟩ | (simp only [List.length_append, List.length_cons, List.length_nil, List.length_map, List.length_take, List.length_drop, List.length_replicate, List.length_set]; omega)) | (with_reducible refine fact ?_ ?_; first | trivial | exact ⟨rfl, rfl⟩ | kernel_rfl) | with_reducible refine choT (by assumption) ?_ | with_reducible refine choF (by assumption) ?_ | with_reducible refine choF' (by assumption) ?_ | (with_reducible refine altT ?_ ?_; first | omega | (simp only [List.length_append, List.length_cons, List.length_nil, List.length_map, List.length_take, List.length_drop, List.length_replicate, List.length_set]; omega)) | with_reducible refine altF ?_ | with_reducible refine all fun _ => ?_ | with_reducible refine both ?_ ?_ | (with_reducible refine choT ?_ ?_; omega) | (with_reducible refine choF ?_ ?_; omega) | with_reducible refine cho (fun _ => ?_) (fun _ => ?_))
      refine ⟨_, _, _, rfl, Sub.app_nil _, ?_, rfl⟩
      rw [checkB, decide_eq_false hp, Bool.false_and]
  · have hh := halfN_lt (n := n) (by omega)
    by_cases h5 : j < halfN n
    · have e : upL n j = true :: upL (halfN n) j := by
        conv => lhs; unfold upL
        rw [dif_neg h4, if_pos h5]
      rw [e] at h3
      repeat' (first | with_reducible apply Stp.go | with_reducible refine imp fun _ => ?_ | (with_reducible refine hyp ?_ ?_; first | assumption | exact leftT_mem (by assumption)) | (with_reducible refine need ?_ ?_; first | trivial | omega | exact ⟨by assumption, by omega⟩ | (simp only [List.length_append, List.length_cons, List.length_nil, List.length_map, List.length_take, List.length_drop, List.length_replicate, List.length_set]; omega)) | (with_reducible refine fact ?_ ?_; first | trivial | exact ⟨rfl, rfl⟩ | kernel_rfl) | with_reducible refine choT (by assumption) ?_ | with_reducible refine choF (by assumption) ?_ | with_reducible refine choF' (by assumption) ?_ | (with_reducible refine altT ?_ ?_; first | omega | (simp only [List.length_append, List.length_cons, List.length_nil, List.length_map, List.length_take, List.length_drop, List.length_replicate, List.length_set]; omega)) | with_reducible refine altF ?_ | with_reducible refine all fun _ => ?_ | with_reducible refine both ?_ ?_ | (with_reducible refine choT ?_ ?_; omega) | (with_reducible refine choF ?_ ?_; omega) | with_reducible refine cho (fun _ => ?_) (fun _ => ?_))
      rename_i w
      exact again (halfN n, j, w, us ++ [true]) (by dsimp only; omega) ⟨by dsimp only; omega, by dsimp only; omega, by dsimp only; rw [List.append_assoc]; exact h3⟩ (Sub.refl _ _)
    · have e : upL n j = false :: upL (n - halfN n) (j - halfN n) := by
        conv => lhs; unfold upL
        rw [dif_neg h4, if_neg h5]
      rw [e] at h3
      repeat' (first | with_reducible apply Stp.go | with_reducible refine imp fun _ => ?_ | (with_reducible refine hyp ?_ ?_; first | assumption | exact leftT_mem (by assumption)) | (with_reducible refine need ?_ ?_; first | trivial | omega | exact ⟨by assumption, by omega⟩ | (simp only [List.length_append, List.length_cons, List.length_nil, List.length_map, List.length_take, List.length_drop, List.length_replicate, List.length_set]; omega)) | (with_reducible refine fact ?_ ?_; first | trivial | exact ⟨rfl, rfl⟩ | kernel_rfl) | with_reducible refine choT (by assumption) ?_ | with_reducible refine choF (by assumption) ?_ | with_reducible refine choF' (by assumption) ?_ | (with_reducible refine altT ?_ ?_; first | omega | (simp only [List.length_append, List.length_cons, List.length_nil, List.length_map, List.length_take, List.length_drop, List.length_replicate, List.length_set]; omega)) | with_reducible refine altF ?_ | with_reducible refine all fun _ => ?_ | with_reducible refine both ?_ ?_ | (with_reducible refine choT ?_ ?_; omega) | (with_reducible refine choF ?_ ?_; omega) | with_reducible refine cho (fun _ => ?_) (fun _ => ?_))
      rename_i w
      exact again (n - halfN n, j - halfN n, w, us ++ [false]) (by dsimp only; omega) ⟨by dsimp only; omega, by dsimp only; omega, by dsimp only; rw [List.append_assoc]; exact h3⟩ (Sub.refl _ _)
/-- Likewise, of any place and count. -/
def checkZ (b : Int) (root : D32) (cnt i : Int) (leaf : List UInt8) (path : List D32) : Bool := decide (0 ≤ i ∧ i < cnt) && checkB b root cnt.toNat i.toNat leaf path
theorem checkZ_in {b : Int} {root : D32} {cnt i : Int} {leaf : List UInt8} {path : List D32} (h : checkZ b root cnt i leaf path = true) : 0 ≤ i ∧ i < cnt := by
  unfold checkZ at h
  rw [Bool.and_eq_true, decide_eq_true_eq] at h
  exact h.1
theorem checkZ_nat (b : Int) (root : D32) {cnt i : Nat} (leaf : List UInt8) (path : List D32) (h : i < cnt) : checkZ b root cnt i leaf path = checkB b root cnt i leaf path := by
  rw [checkZ, decide_eq_true (show (0 : Int) ≤ i ∧ (i : Int) < cnt by omega), Bool.true_and, Int.toNat_natCast, Int.toNat_natCast]
theorem Check_ok (b : Int) (root : List UInt8) [hr : Len32 root] (cnt i : Int) (leaf : List UInt8) (m m' : SM) (path : List D32) (hc : cnt ≤ 9223372036854775807) (hl : leaf.length ≤ 100000000000000) :
    aPure Go.Proofs.Try.prog 64 [trA b, dgA root, I .i64 cnt, I .i64 i, .lst 1 (leaf.map byt) m, .lst 32 (path.map dgF) m'] (B (checkZ b ⟨root, hr.len⟩ cnt i leaf path)) := by
  by_cases h : 0 ≤ i ∧ i < cnt
  · obtain ⟨n, rfl⟩ := Int.eq_ofNat_of_zero_le (show 0 ≤ cnt by omega)
    obtain ⟨j, rfl⟩ := Int.eq_ofNat_of_zero_le h.1
    rw [checkZ_nat _ _ _ _ (by omega)]
    exact Check_nat b root n j leaf m m' path (by omega) (by omega) hl
  · rw [checkZ, decide_eq_false h, Bool.false_and]
    refine ACalls.fin (tree_Tree_Check.go ?_)
    unfold tree_Tree_Check.sh
    by_cases h0 : i < 0
    · repeat' (first | with_reducible apply Stp.go | with_reducible refine imp fun _ => ?_ | (with_reducible refine hyp ?_ ?_; first | assumption | exact leftT_mem (by assumption)) | (with_reducible refine need ?_ ?_; first | trivial | omega | exact ⟨by assumption, by omega⟩ | (simp only [List.length_append, List.length_cons, List.length_nil, List.length_map, List.length_take, List.length_drop, List.length_replicate, List.length_set]; omega)) | (with_reducible refine fact ?_ ?_; first | trivial | exact ⟨rfl, rfl⟩ | kernel_rfl) | with_reducible refine choT (by assumption) ?_ | with_reducible refine choF (by assumption) ?_ | with_reducible refine choF' (by assumption) ?_ | (with_reducible refine altT ?_ ?_; first | omega | (simp only [List.length_append, List.length_cons, List.length_nil, List.length_map, List.length_take, List.length_drop, List.length_replicate, List.length_set]; omega)) | with_reducible refine altF ?_ | with_reducible refine all fun _ => ?_ | with_reducible refine both ?_ ?_ | (with_reducible refine choT ?_ ?_; omega) | (with_reducible refine choF ?_ ?_; omega) | with_reducible refine cho (fun _ => ?_) (fun _ => ?_))
      exact ⟨_, _, _, rfl, Sub.app_nil _, rfl, rfl⟩
    · have h1 : cnt ≤ i := by omega
      repeat' (first | with_reducible apply Stp.go | with_reducible refine imp fun _ => ?_ | (with_reducible refine hyp ?_ ?_; first | assumption | exact leftT_mem (by assumption)) | (with_reducible refine need ?_ ?_; first | trivial | omega | exact ⟨by assumption, by omega⟩ | (simp only [List.length_append, List.length_cons, List.length_nil, List.length_map, List.length_take, List.length_drop, List.length_replicate, List.length_set]; omega)) | (with_reducible refine fact ?_ ?_; first | trivial | exact ⟨rfl, rfl⟩ | kernel_rfl) | with_reducible refine choT (by assumption) ?_ | with_reducible refine choF (by assumption) ?_ | with_reducible refine choF' (by assumption) ?_ | (with_reducible refine altT ?_ ?_; first | omega | (simp only [List.length_append, List.length_cons, List.length_nil, List.length_map, List.length_take, List.length_drop, List.length_replicate, List.length_set]; omega)) | with_reducible refine altF ?_ | with_reducible refine all fun _ => ?_ | with_reducible refine both ?_ ?_ | (with_reducible refine choT ?_ ?_; omega) | (with_reducible refine choF ?_ ?_; omega) | with_reducible refine cho (fun _ => ?_) (fun _ => ?_))
      exact ⟨_, _, _, rfl, Sub.app_nil _, rfl, rfl⟩
instance {a a2 : AV} {root leaf : List UInt8} {m m' : SM} {b : Int} {cnt i : Int} {path : List D32} [hr : Len32 root] [h : IsL a byt 1 leaf m] [h2 : IsL a2 dgF 32 path m'] : PC Go.Proofs.Try.prog 64 [trA b, dgA root, I .i64 cnt, I .i64 i, a, a2] (cnt ≤ 9223372036854775807 ∧ leaf.length ≤ 100000000000000) (B (checkZ b ⟨root, hr.len⟩ cnt i leaf path)) := ⟨fun hl => ⟨[trA b, dgA root, I .i64 cnt, I .i64 i, .lst 1 (leaf.map byt) m, .lst 32 (path.map dgF) m'], ⟨SubV.refl _, SubV.refl _, SubV.refl _, SubV.refl _, h.sub, h2.sub, trivial⟩, Check_ok b root cnt i leaf m m' path hl.1 hl.2⟩⟩
/-- The path of a leaf leads to the root. -/
theorem climb_snoc (b : Int) : ∀ (us : List Bool) (xs : List D32) (u : Bool) (x d : D32), us.length = xs.length → climb b (us ++ [u]) (xs ++ [x]) d = stepD b u (climb b us xs d) x
  | [], [], u, x, d, _ => rfl
  | v :: us, y :: xs, u, x, d, h => climb_snoc b us xs u x (stepD b v d y) (by simpa using h)
theorem path_root (b : Int) : ∀ (n : Nat) (L : List (List UInt8)) (i : Nat), L.length = n → i < n → (pathD b L i).length = (upL n i).length ∧ (climb b (upL n i).reverse (pathD b L i) ⟨leafD b (L.getD i default), Len32.len⟩).val = rootD b L := by
  intro n
  induction n using Nat.strongRecOn with
  | _ n ih =>
    intro L i hn hi
    by_cases h1 : n ≤ 1
    · have e1 : pathD b L i = [] := by unfold pathD; rw [dif_pos (by omega)]
      have e2 : upL n i = [] := by unfold upL; rw [dif_pos h1]
      have e3 : rootD b L = leafD b (L.getD 0 default) := by unfold rootD; rw [dif_neg (by omega), dif_pos (by omega)]
      have e4 : i = 0 := by omega
      subst e4
      rw [e1, e2, e3]
      exact ⟨rfl, rfl⟩
    · have hh := halfN_lt (n := n) (by omega)
      have l1 : (L.take (halfN n)).length = halfN n := by rw [List.length_take]; omega
      have l2 : (L.drop (halfN n)).length = n - halfN n := by rw [List.length_drop, hn]
      have e3 : rootD b L = nodeD b (rootD b (L.take (halfN n))) (rootD b (L.drop (halfN n))) := by
        conv => lhs; unfold rootD
        rw [dif_neg (by omega), dif_neg (by omega), hn]
      by_cases h2 : i < halfN n
      · have e1 : pathD b L i = pathD b (L.take (halfN n)) i ++ [rootF b (L.drop (halfN n))] := by
          conv => lhs; unfold pathD
          rw [dif_neg (by omega), hn, if_pos h2]
        have e2 : upL n i = true :: upL (halfN n) i := by
          conv => lhs; unfold upL
          rw [dif_neg h1, if_pos h2]
        obtain ⟨i1, i2⟩ := ih (halfN n) hh.2 (L.take (halfN n)) i l1 h2
        have e5 : (L.take (halfN n)).getD i default = L.getD i default := by
          rw [List.getD_eq_getElem?_getD, List.getD_eq_getElem?_getD, List.getElem?_take, if_pos h2]
        rw [e5] at i2
        rw [e1, e2, e3]
        refine ⟨by simp [i1], ?_⟩
        rw [List.reverse_cons, climb_snoc b _ _ _ _ _ (by rw [List.length_reverse]; exact i1.symm)]
        show nodeD b (climb b _ _ _).val _ = _
        rw [i2]
      · have e1 : pathD b L i = pathD b (L.drop (halfN n)) (i - halfN n) ++ [rootF b (L.take (halfN n))] := by
          conv => lhs; unfold pathD
          rw [dif_neg (by omega), hn, if_neg h2]
        have e2 : upL n i = false :: upL (n - halfN n) (i - halfN n) := by
          conv => lhs; unfold upL
          rw [dif_neg h1, if_neg h2]
        obtain ⟨i1, i2⟩ := ih (n - halfN n) (by omega) (L.drop (halfN n)) (i - halfN n) l2 (by omega)
        have e5 : (L.drop (halfN n)).getD (i - halfN n) default = L.getD i default := by
          rw [List.getD_eq_getElem?_getD, List.getD_eq_getElem?_getD, List.getElem?_drop, show halfN n + (i - halfN n) = i by omega]
        rw [e5] at i2
        rw [e1, e2, e3]
        refine ⟨by simp [i1], ?_⟩
        rw [List.reverse_cons, climb_snoc b _ _ _ _ _ (by rw [List.length_reverse]; exact i1.symm)]
        show nodeD b _ (climb b _ _ _).val = _
        rw [i2]
end Go.Ab

/- What a table has of some keys, proved. -/
set_option linter.unusedVariables false
set_option linter.unusedSimpArgs false
namespace Go.Ab
/-- Some keys may be a table's. -/
def spanOk (l : List En) (lo hi : List UInt8) : Bool := !lt (l.getD (l.length - 1) default).key lo && (belowB (l.getD 0 default).key hi && belowB lo hi)
/-- An opening of some leaves, as a value. -/
abbrev spA (p : Int) (L : List (List UInt8)) (d : List D32) : AV := .agg [I .i64 p, .lst 1 (L.map bl) .ro, .lst 32 (d.map dgF) .ro]
def seek_ProveSpan.mark : Mark := ⟨fun t => Nat.beq t 17 || Nat.beq t 35 || Nat.beq t 41 || Nat.beq t 48 || Nat.beq t 58 || Nat.beq t 70, fun t => false, fun t => Nat.beq t 4, fun t => Nat.beq t 26 || Nat.beq t 33 || Nat.beq t 72, fun t => false⟩
def seek_ProveSpan.ann : Ann := ⟨fun n => [], fun n => bif Nat.beq n 9 then some [1, 4, 8, 10, 12] else none, fun n => none⟩
end Go.Ab

/- Leaves held against a root. -/
set_option linter.unusedVariables false
set_option linter.unusedSimpArgs false
namespace Go.Ab
/-- The next of a path; none: it is bad. -/
def popD (s : List D32 × Bool) : D32 × (List D32 × Bool) := match s with
  | ([], _) => (⟨zeroD, Len32.len⟩, ([], true))
  | (x :: xs, c) => (x, (xs, c))
/-- The root of so many leaves, of which a part is there; what is left of the path. -/
def rootR (b : Int) (part : List (List UInt8)) (cnt : Nat) (p : Int) (s : List D32 × Bool) : D32 × (List D32 × Bool) :=
  if p + part.length ≤ 0 ∨ (cnt : Int) ≤ p then popD s
  else if h : cnt ≤ 1 then (⟨leafD b (part.getD (-p).toNat default), Len32.len⟩, s)
  else
    let x := rootR b part (halfN cnt) p s
    let y := rootR b part (cnt - halfN cnt) (p - halfN cnt) x.2
    (⟨nodeD b x.1.val y.1.val, Len32.len⟩, y.2)
termination_by cnt
decreasing_by
  · have := halfN_lt (n := cnt) (by omega); omega
  · have := halfN_lt (n := cnt) (by omega); omega
theorem popD_le (s : List D32 × Bool) : (popD s).2.1.length ≤ s.1.length := by
  unfold popD
  split <;> simp
section rootR
variable {b : Int} {part : List (List UInt8)} {cnt : Nat} {p : Int} {s : List D32 × Bool}
theorem rootR_out (h : p + part.length ≤ 0 ∨ (cnt : Int) ≤ p) : rootR b part cnt p s = popD s := by unfold rootR; rw [if_pos h]
theorem rootR_one (h : ¬ (p + part.length ≤ 0 ∨ (cnt : Int) ≤ p)) (h1 : cnt ≤ 1) : rootR b part cnt p s = (⟨leafD b (part.getD (-p).toNat default), Len32.len⟩, s) := by unfold rootR; rw [if_neg h, dif_pos h1]
theorem rootR_two (h : ¬ (p + part.length ≤ 0 ∨ (cnt : Int) ≤ p)) (h1 : ¬ cnt ≤ 1) : rootR b part cnt p s = (⟨nodeD b (rootR b part (halfN cnt) p s).1.val (rootR b part (cnt - halfN cnt) (p - halfN cnt) (rootR b part (halfN cnt) p s).2).1.val, Len32.len⟩, (rootR b part (cnt - halfN cnt) (p - halfN cnt) (rootR b part (halfN cnt) p s).2).2) := by
  conv => lhs; unfold rootR
  rw [if_neg h, dif_neg h1]
end rootR
theorem rootR_le (b : Int) (part : List (List UInt8)) : ∀ (n cnt : Nat) (p : Int) (s : List D32 × Bool), cnt = n → (rootR b part cnt p s).2.1.length ≤ s.1.length := by
  intro n
  induction n using Nat.strongRecOn with
  | _ n ih =>
    intro cnt p s hn
    unfold rootR
    split
    · exact popD_le s
    · split
      · exact Nat.le_refl _
      · have hh := halfN_lt (n := cnt) (by omega)
        have i1 := ih (halfN cnt) (by omega) _ p s rfl
        have i2 := ih (cnt - halfN cnt) (by omega) _ (p - halfN cnt) (rootR b part (halfN cnt) p s).2 rfl
        exact Nat.le_trans i2 i1
/-- Are leaves under a root. -/
def checkR (b : Int) (root : D32) (cnt p : Int) (part : List (List UInt8)) (path : List D32) : Bool :=
  decide (0 < part.length ∧ 0 ≤ p ∧ (part.length : Int) ≤ cnt ∧ p ≤ cnt - part.length) &&
    ((!(rootR b part cnt.toNat p (path, false)).2.2 && decide ((rootR b part cnt.toNat p (path, false)).2.1.length = 0)) && decide ((rootR b part cnt.toNat p (path, false)).1.val = root.val))
instance (priority := 80) negN {P : Program} {a : Nat} {K : AV → Prop} : Stp (Do (aUn P .neg (.val (.int .i64 (-((a : Nat) : Int))))) K) (Need (a ≤ 9223372036854775807) (K (.val (.int .i64 ((a : Nat) : Int))))) := ⟨fun ⟨h, hK⟩ => by
  refine ⟨.val (.int .i64 (IntKind.wrap .i64 (- -((a : Nat) : Int)))), ⟨_, rfl, fun w => by simp [Op.unary, Op.intArith]⟩, ?_⟩
  rw [Int.neg_neg, wrap_i64 (by omega) (by omega)]
  exact hK⟩
abbrev OpT : TypeId := 133
abbrev opn4 (b : Int) (part : List (List UInt8)) (m : SM) (q : List D32) (c : Bool) : List AV := [I .i64 b, .lst 1 (part.map bl) m, .lst 32 (q.map dgF) .ro, B c]
instance (priority := 2000) litZ32 {offs : List (Nat × Nat)} {K : AV → Prop} : Stp (Do (aLit [.val (.int .u8 0), .val (.int .u8 0), .val (.int .u8 0), .val (.int .u8 0), .val (.int .u8 0), .val (.int .u8 0), .val (.int .u8 0), .val (.int .u8 0), .val (.int .u8 0), .val (.int .u8 0), .val (.int .u8 0), .val (.int .u8 0), .val (.int .u8 0), .val (.int .u8 0), .val (.int .u8 0), .val (.int .u8 0), .val (.int .u8 0), .val (.int .u8 0), .val (.int .u8 0), .val (.int .u8 0), .val (.int .u8 0), .val (.int .u8 0), .val (.int .u8 0), .val (.int .u8 0), .val (.int .u8 0), .val (.int .u8 0), .val (.int .u8 0), .val (.int .u8 0), .val (.int .u8 0), .val (.int .u8 0), .val (.int .u8 0), .val (.int .u8 0)] offs []) K) (K (dgA zeroD)) := ⟨fun hK => ⟨_, ⟨(fun p hp => by cases hp), [.val (.int .u8 0), .val (.int .u8 0), .val (.int .u8 0), .val (.int .u8 0), .val (.int .u8 0), .val (.int .u8 0), .val (.int .u8 0), .val (.int .u8 0), .val (.int .u8 0), .val (.int .u8 0), .val (.int .u8 0), .val (.int .u8 0), .val (.int .u8 0), .val (.int .u8 0), .val (.int .u8 0), .val (.int .u8 0), .val (.int .u8 0), .val (.int .u8 0), .val (.int .u8 0), .val (.int .u8 0), .val (.int .u8 0), .val (.int .u8 0), .val (.int .u8 0), .val (.int .u8 0), .val (.int .u8 0), .val (.int .u8 0), .val (.int .u8 0), .val (.int .u8 0), .val (.int .u8 0), .val (.int .u8 0), .val (.int .u8 0), .val (.int .u8 0)], rfl, rfl⟩, hK⟩⟩
def tree_opening_root.mark : Mark := ⟨fun t => false, fun t => false, fun t => false, fun t => Nat.beq t 39 || Nat.beq t 63, fun t => false⟩
def tree_opening_root.ann : Ann := ⟨fun n => [], fun n => none, fun n => bif Nat.beq n 12 then some [6] else none⟩
/-- '(*marlstone/tree.opening).root' -/
def tree_opening_root.sh (a0 a1 a2 : AV) (σ : Store) (Q : AEnd → Store → Prop) : Prop :=
  aNewVar 46 [.val (.int .u8 0), .val (.int .u8 0), .val (.int .u8 0), .val (.int .u8 0), .val (.int .u8 0), .val (.int .u8 0), .val (.int .u8 0), .val (.int .u8 0), .val (.int .u8 0), .val (.int .u8 0), .val (.int .u8 0), .val (.int .u8 0), .val (.int .u8 0), .val (.int .u8 0), .val (.int .u8 0), .val (.int .u8 0), .val (.int .u8 0), .val (.int .u8 0), .val (.int .u8 0), .val (.int .u8 0), .val (.int .u8 0), .val (.int .u8 0), .val (.int .u8 0), .val (.int .u8 0), .val (.int .u8 0), .val (.int .u8 0), .val (.int .u8 0), .val (.int .u8 0), .val (.int .u8 0), .val (.int .u8 0), .val (.int .u8 0), .val (.int .u8 0)] σ fun t6 σ =>
  Do (aNil a0) fun t13 =>
  Do (aFieldAddr 1 1 t13) fun t14 =>
  Do (loadA false 1 t14 σ) fun t15 =>
  Do (aBuiltin Go.Proofs.Try.prog .len #[37] [t15]) fun t16 =>
  Do (aBin Go.Proofs.Try.prog .add 3 a2 t16) fun t17 =>
  Do (aBin Go.Proofs.Try.prog .leq 3 t17 (.val (.int .i64 0))) fun t18 =>
  Do (aGuard t18 false (aIs a2)) fun t20 =>
  Do (aGuard t18 false (aIs a1)) fun t21 =>
  Do (aGuard t18 false (aBin Go.Proofs.Try.prog .geq 3 t20 t21)) fun t22 =>
  Do (aPick t18 (.val (.bool true)) t22) fun t23 =>
  aCond t23
    (Do (aNil a0) fun t25 =>
    Do (aFieldAddr 2 1 t25) fun t26 =>
    Do (loadA false 1 t26 σ) fun t27 =>
    Do (aBuiltin Go.Proofs.Try.prog .len #[28] [t27]) fun t28 =>
    Do (aBin Go.Proofs.Try.prog .eql 3 t28 (.val (.int .i64 0))) fun t29 =>
    aCond t29
      (Do (aNil a0) fun t31 =>
      Do (aFieldAddr 3 1 t31) fun t32 =>
      storeA 1 t32 (.val (.bool true)) σ fun u σ_1 =>
      Do (aLit [.val (.int .u8 0), .val (.int .u8 0), .val (.int .u8 0), .val (.int .u8 0), .val (.int .u8 0), .val (.int .u8 0), .val (.int .u8 0), .val (.int .u8 0), .val (.int .u8 0), .val (.int .u8 0), .val (.int .u8 0), .val (.int .u8 0), .val (.int .u8 0), .val (.int .u8 0), .val (.int .u8 0), .val (.int .u8 0), .val (.int .u8 0), .val (.int .u8 0), .val (.int .u8 0), .val (.int .u8 0), .val (.int .u8 0), .val (.int .u8 0), .val (.int .u8 0), .val (.int .u8 0), .val (.int .u8 0), .val (.int .u8 0), .val (.int .u8 0), .val (.int .u8 0), .val (.int .u8 0), .val (.int .u8 0), .val (.int .u8 0), .val (.int .u8 0)] [(0, 1), (1, 1), (2, 1), (3, 1), (4, 1), (5, 1), (6, 1), (7, 1), (8, 1), (9, 1), (10, 1), (11, 1), (12, 1), (13, 1), (14, 1), (15, 1), (16, 1), (17, 1), (18, 1), (19, 1), (20, 1), (21, 1), (22, 1), (23, 1), (24, 1), (25, 1), (26, 1), (27, 1), (28, 1), (29, 1), (30, 1), (31, 1)] []) fun t33 =>
      storeA 32 t6 t33 σ_1 fun u_1 σ_2 =>
      Do (loadA true 32 t6 σ_2) fun r6 => Q (.ret r6) σ_2)
      (Do (aNil a0) fun t35 =>
    Do (aFieldAddr 2 1 t35) fun t36 =>
    Do (loadA false 1 t36 σ) fun t37 =>
    Do (aIndexAddr .slice 32 t37 (.val (.int .i64 0))) fun t38 =>
    Do (loadF true 32 t38) fun t39 =>
    aNewVar 46 [.val (.int .u8 0), .val (.int .u8 0), .val (.int .u8 0), .val (.int .u8 0), .val (.int .u8 0), .val (.int .u8 0), .val (.int .u8 0), .val (.int .u8 0), .val (.int .u8 0), .val (.int .u8 0), .val (.int .u8 0), .val (.int .u8 0), .val (.int .u8 0), .val (.int .u8 0), .val (.int .u8 0), .val (.int .u8 0), .val (.int .u8 0), .val (.int .u8 0), .val (.int .u8 0), .val (.int .u8 0), .val (.int .u8 0), .val (.int .u8 0), .val (.int .u8 0), .val (.int .u8 0), .val (.int .u8 0), .val (.int .u8 0), .val (.int .u8 0), .val (.int .u8 0), .val (.int .u8 0), .val (.int .u8 0), .val (.int .u8 0), .val (.int .u8 0)] σ fun t7 σ_3 =>
    storeA 32 t7 t39 σ_3 fun u_2 σ_4 =>
    Do (aNil a0) fun t42 =>
    Do (aFieldAddr 2 1 t42) fun t43 =>
    Do (loadA false 1 t43 σ_4) fun t44 =>
    Do (aSlice .slice 32 t44 (some (.val (.int .i64 1))) none none) fun t45 =>
    Do (aNil a0) fun t46 =>
    Do (aFieldAddr 2 1 t46) fun t47 =>
    storeA 1 t47 t45 σ_4 fun u_3 σ_5 =>
    Do (loadA true 32 t7 σ_5) fun t48 =>
    storeA 32 t6 t48 σ_5 fun u_4 σ_6 =>
    Do (loadA true 32 t6 σ_6) fun r6_1 => Q (.ret r6_1) σ_6))
    (Do (aBin Go.Proofs.Try.prog .eql 3 a1 (.val (.int .i64 1))) fun t51 =>
    aCond t51
      (Do (aNil a0) fun t53 =>
      Do (aFieldAddr 0 1 t53) fun t54 =>
      Do (loadA true 1 t54 σ) fun t55 =>
      Do (aNil a0) fun t57 =>
      Do (aFieldAddr 1 1 t57) fun t58 =>
      Do (aUn Go.Proofs.Try.prog .neg a2) fun t61 =>
      Do (loadA false 1 t58 σ) fun t59 =>
      Do (aIndexAddr .slice 1 t59 t61) fun t62 =>
      Do (loadF false 1 t62) fun t63 =>
      aCall Go.Proofs.Try.prog 66 [t55, t63] σ (fun t64 σ_7 =>
      storeA 32 t6 t64 σ_7 fun u_5 σ_8 =>
      Do (loadA true 32 t6 σ_8) fun r6_2 => Q (.ret r6_2) σ_8) (fun e σ_9 => Q (.pan e) σ_9))
      (aCall Go.Proofs.Try.prog 100 [a1] σ (fun t66 σ_10 =>
  aCall Go.Proofs.Try.prog 95 [a0, t66, a2] σ_10 (fun t70 σ_11 =>
  aNewVar 46 [.val (.int .u8 0), .val (.int .u8 0), .val (.int .u8 0), .val (.int .u8 0), .val (.int .u8 0), .val (.int .u8 0), .val (.int .u8 0), .val (.int .u8 0), .val (.int .u8 0), .val (.int .u8 0), .val (.int .u8 0), .val (.int .u8 0), .val (.int .u8 0), .val (.int .u8 0), .val (.int .u8 0), .val (.int .u8 0), .val (.int .u8 0), .val (.int .u8 0), .val (.int .u8 0), .val (.int .u8 0), .val (.int .u8 0), .val (.int .u8 0), .val (.int .u8 0), .val (.int .u8 0), .val (.int .u8 0), .val (.int .u8 0), .val (.int .u8 0), .val (.int .u8 0), .val (.int .u8 0), .val (.int .u8 0), .val (.int .u8 0), .val (.int .u8 0)] σ_11 fun t9 σ_12 =>
  storeA 32 t9 t70 σ_12 fun u_6 σ_13 =>
  aJoin (fun j =>
    Do (aNil a0) fun t72 =>
    Do (aFieldAddr 0 1 t72) fun t73 =>
    Do (aBin Go.Proofs.Try.prog .sub 3 a1 t66) fun t79 =>
    Do (aBin Go.Proofs.Try.prog .sub 3 a2 t66) fun t82 =>
    Both (Do (loadA true 1 t73 σ_13) fun t74 =>
    Both (Do (loadA true 32 t9 σ_13) fun t75 =>
    aCall Go.Proofs.Try.prog 95 [a0, t79, t82] σ_13 (fun t83 σ_15 =>
    aCall Go.Proofs.Try.prog 71 [t74, t75, t83] σ_15 (fun t84 σ_16 =>
    storeA 32 t6 t84 σ_16 fun u_7 σ_17 =>
    j [t6] σ_17) (fun e_1 σ_18 => Q (.pan e_1) σ_18)) (fun e_2 σ_19 => Q (.pan e_2) σ_19)) (aCall Go.Proofs.Try.prog 95 [a0, t79, t82] σ_13 (fun t83_1 σ_20 =>
    Do (loadA true 32 t9 σ_20) fun t75_1 =>
    aCall Go.Proofs.Try.prog 71 [t74, t75_1, t83_1] σ_20 (fun t84_1 σ_21 =>
    storeA 32 t6 t84_1 σ_21 fun u_8 σ_22 =>
    j [t6] σ_22) (fun e_3 σ_23 => Q (.pan e_3) σ_23)) (fun e_4 σ_24 => Q (.pan e_4) σ_24))) (Both (Do (loadA true 32 t9 σ_13) fun t75_2 =>
    Both (Do (loadA true 1 t73 σ_13) fun t74_1 =>
    aCall Go.Proofs.Try.prog 95 [a0, t79, t82] σ_13 (fun t83_2 σ_25 =>
    aCall Go.Proofs.Try.prog 71 [t74_1, t75_2, t83_2] σ_25 (fun t84_2 σ_26 =>
    storeA 32 t6 t84_2 σ_26 fun u_9 σ_27 =>
    j [t6] σ_27) (fun e_5 σ_28 => Q (.pan e_5) σ_28)) (fun e_6 σ_29 => Q (.pan e_6) σ_29)) (aCall Go.Proofs.Try.prog 95 [a0, t79, t82] σ_13 (fun t83_3 σ_30 =>
    Do (loadA true 1 t73 σ_30) fun t74_2 =>
    aCall Go.Proofs.Try.prog 71 [t74_2, t75_2, t83_3] σ_30 (fun t84_3 σ_31 =>
    storeA 32 t6 t84_3 σ_31 fun u_10 σ_32 =>
    j [t6] σ_32) (fun e_7 σ_33 => Q (.pan e_7) σ_33)) (fun e_8 σ_34 => Q (.pan e_8) σ_34))) (aCall Go.Proofs.Try.prog 95 [a0, t79, t82] σ_13 (fun t83_4 σ_35 =>
    Do (loadA true 1 t73 σ_35) fun t74_3 =>
    Do (loadA true 32 t9 σ_35) fun t75_3 =>
    aCall Go.Proofs.Try.prog 71 [t74_3, t75_3, t83_4] σ_35 (fun t84_4 σ_36 =>
    storeA 32 t6 t84_4 σ_36 fun u_11 σ_37 =>
    j [t6] σ_37) (fun e_9 σ_38 => Q (.pan e_9) σ_38)) (fun e_10 σ_39 => Q (.pan e_10) σ_39)))) fun vs σ_14 =>
  At vs 0 fun s6 => Do (loadA true 32 s6 σ_14) fun r6_3 => Q (.ret r6_3) σ_14) (fun e_11 σ_40 => Q (.pan e_11) σ_40)) (fun e_12 σ_41 => Q (.pan e_12) σ_41)))
theorem tree_opening_root.eq (a0 a1 a2 : AV) (σ : Store) (Q : AEnd → Store → Prop) : vc (semOf Go.Proofs.Try.prog tree_opening_root.mark) Go.Proofs.Try.f95.ntmps tree_opening_root.ann (bodyOf Go.Proofs.Try.f95) (endK [.cell 6 true 32] Q) (argFr [a0, a1, a2]) σ = tree_opening_root.sh a0 a1 a2 σ Q := by kernel_rfl
theorem tree_opening_root.go {a0 a1 a2 : AV} {σ : Store} {Q : AEnd → Store → Prop} (h : tree_opening_root.sh a0 a1 a2 σ Q) : ACalls Go.Proofs.Try.prog 95 [a0, a1, a2] σ Q :=
  acalls_of_eq [.cell 6 true 32] Go.Proofs.Try.func95 (by kernel_rfl) (by kernel_rfl) (by kernel_rfl) (by kernel_rfl) (tree_opening_root.eq a0 a1 a2 σ Q) h
def tree_Tree_CheckRange.mark : Mark := ⟨fun t => false, fun t => false, fun t => Nat.beq t 6 || Nat.beq t 7, fun t => Nat.beq t 36 || Nat.beq t 60, fun t => false⟩
def tree_Tree_CheckRange.ann : Ann := ⟨fun n => [], fun n => none, fun n => none⟩
/-- '(marlstone/tree.Tree).CheckRange' -/
def tree_Tree_CheckRange.sh (a0 a1 a2 a3 a4 a5 : AV) (σ : Store) (Q : AEnd → Store → Prop) : Prop :=
  Do (aFreeze ((a0 : AV)).cells) fun t6 =>
  Do (aFreeze ((a1 : AV)).cells) fun t7 =>
  Do (aBuiltin Go.Proofs.Try.prog .len #[37] [a4]) fun t16 =>
  Do (aBin Go.Proofs.Try.prog .eql 3 t16 (.val (.int .i64 0))) fun t17 =>
  Do (aGuard t17 false (aIs a3)) fun t19 =>
  Do (aGuard t17 false (aBin Go.Proofs.Try.prog .lss 3 t19 (.val (.int .i64 0)))) fun t20 =>
  Do (aPick t17 (.val (.bool true)) t20) fun t21 =>
  Do (aGuard t21 false (aIs a2)) fun t23 =>
  Do (aGuard t21 false (aIs a4)) fun t24 =>
  Do (aGuard t21 false (aBuiltin Go.Proofs.Try.prog .len #[37] [t24])) fun t25 =>
  Do (aGuard t21 false (aBin Go.Proofs.Try.prog .lss 3 t23 t25)) fun t26 =>
  Do (aPick t21 (.val (.bool true)) t26) fun t27 =>
  Do (aGuard t27 false (aIs a3)) fun t29 =>
  Do (aGuard t27 false (aIs a2)) fun t30 =>
  Do (aGuard t27 false (aIs a4)) fun t31 =>
  Do (aGuard t27 false (aBuiltin Go.Proofs.Try.prog .len #[37] [t31])) fun t32 =>
  Do (aGuard t27 false (aBin Go.Proofs.Try.prog .sub 3 t30 t32)) fun t33 =>
  Do (aGuard t27 false (aBin Go.Proofs.Try.prog .gtr 3 t29 t33)) fun t34 =>
  Do (aPick t27 (.val (.bool true)) t34) fun t35 =>
  aCond t35
    (Q (.ret (.val (.bool false))) σ)
    (Do (loadF true 1 t6) fun t36 =>
  Do (aLit [.val (.int .i64 0), .val (.slice none 0 0), .val (.slice none 0 0), .val (.bool false)] [(0, 1), (1, 1), (2, 1), (3, 1)] [(0, t36), (1, a4), (2, a5)]) fun t39 =>
  aNewVar 133 (t39 : AV).cells σ fun t40 σ =>
  aCall Go.Proofs.Try.prog 95 [t40, a2, a3] σ (fun t44 σ_1 =>
  aNewVar 46 [.val (.int .u8 0), .val (.int .u8 0), .val (.int .u8 0), .val (.int .u8 0), .val (.int .u8 0), .val (.int .u8 0), .val (.int .u8 0), .val (.int .u8 0), .val (.int .u8 0), .val (.int .u8 0), .val (.int .u8 0), .val (.int .u8 0), .val (.int .u8 0), .val (.int .u8 0), .val (.int .u8 0), .val (.int .u8 0), .val (.int .u8 0), .val (.int .u8 0), .val (.int .u8 0), .val (.int .u8 0), .val (.int .u8 0), .val (.int .u8 0), .val (.int .u8 0), .val (.int .u8 0), .val (.int .u8 0), .val (.int .u8 0), .val (.int .u8 0), .val (.int .u8 0), .val (.int .u8 0), .val (.int .u8 0), .val (.int .u8 0), .val (.int .u8 0)] σ_1 fun t14 σ_2 =>
  storeA 32 t14 t44 σ_2 fun u σ_3 =>
  Do (aNil t40) fun t46 =>
  Do (aFieldAddr 3 1 t46) fun t47 =>
  Do (loadA false 1 t47 σ_3) fun t48 =>
  Do (aUn Go.Proofs.Try.prog .not t48) fun t49 =>
  Do (aGuard t49 true (aIs t40)) fun t51 =>
  Do (aGuard t49 true (aNil t51)) fun t52 =>
  Do (aGuard t49 true (aFieldAddr 2 1 t52)) fun t53 =>
  Do (aGuard t49 true (loadA false 1 t53 σ_3)) fun t54 =>
  Do (aGuard t49 true (aBuiltin Go.Proofs.Try.prog .len #[28] [t54])) fun t55 =>
  Do (aGuard t49 true (aBin Go.Proofs.Try.prog .eql 3 t55 (.val (.int .i64 0)))) fun t56 =>
  Do (aPick t49 t56 (.val (.bool false))) fun t57 =>
  Do (aGuard t57 true (loadA true 32 t14 σ_3)) fun t59 =>
  Do (aGuard t57 true (loadF true 32 t7)) fun t60 =>
  Do (aGuard t57 true (aBin Go.Proofs.Try.prog .eql 46 t59 t60)) fun t61 =>
  Do (aPick t57 t61 (.val (.bool false))) fun t62 =>
  Q (.ret t62) σ_3) (fun e σ_4 => Q (.pan e) σ_4))
theorem tree_Tree_CheckRange.eq (a0 a1 a2 a3 a4 a5 : AV) (σ : Store) (Q : AEnd → Store → Prop) : vc (semOf Go.Proofs.Try.prog tree_Tree_CheckRange.mark) Go.Proofs.Try.f54.ntmps tree_Tree_CheckRange.ann (bodyOf Go.Proofs.Try.f54) (endK [.tmp 12] Q) (argFr [a0, a1, a2, a3, a4, a5]) σ = tree_Tree_CheckRange.sh a0 a1 a2 a3 a4 a5 σ Q := by kernel_rfl
theorem tree_Tree_CheckRange.go {a0 a1 a2 a3 a4 a5 : AV} {σ : Store} {Q : AEnd → Store → Prop} (h : tree_Tree_CheckRange.sh a0 a1 a2 a3 a4 a5 σ Q) : ACalls Go.Proofs.Try.prog 54 [a0, a1, a2, a3, a4, a5] σ Q :=
  acalls_of_eq [.tmp 12] Go.Proofs.Try.func54 (by kernel_rfl) (by kernel_rfl) (by kernel_rfl) (by kernel_rfl) (tree_Tree_CheckRange.eq a0 a1 a2 a3 a4 a5 σ Q) h
theorem oroot_ok (b : Int) (o : Nat) (part : List (List UInt8)) (m : SM) (hpl : part.length ≤ 1000000000) (hpb : ∀ b ∈ part, b.length ≤ 100000000000000) : ∀ (n cnt : Nat) (p : Int) (s : List D32 × Bool), cnt = n → 0 < cnt → cnt ≤ 9223372036854775807 → -9000000000000000000 ≤ p → p ≤ 9223372036854775807 - part.length →
    ACalls Go.Proofs.Try.prog 95 [ptrAt o 0, I .i64 (cnt : Nat), I .i64 p] [.var o OpT (opn4 b part m s.1 s.2)] fun x σ' => x = .ret (dgA (rootR b part cnt p s).1.val) ∧ σ' = [.var o OpT (opn4 b part m (rootR b part cnt p s).2.1 (rootR b part cnt p s).2.2)] := by
  intro n
  induction n using Nat.strongRecOn with
  | _ n ih =>
    intro cnt p s hn h0 h1 h2 h3
    refine ACalls.fin (tree_opening_root.go ?_)
    unfold tree_opening_root.sh
    have inst : ∀ (cnt' : Nat) (p' : Int) (q : List D32) (c : Bool) (σ rest : Store) (put : Ent → Store) [hv : VarAt o σ OpT (opn4 b part m q c) put rest], EC Go.Proofs.Try.prog 95 [ptrAt o 0, I .i64 (cnt' : Nat), I .i64 p'] σ (cnt' < n ∧ 0 < cnt' ∧ cnt' ≤ 9223372036854775807 ∧ -9000000000000000000 ≤ p' ∧ p' ≤ 9223372036854775807 - part.length) Unit (fun _ => dgA (rootR b part cnt' p' (q, c)).1.val) (fun _ => put (.var o OpT (opn4 b part m (rootR b part cnt' p' (q, c)).2.1 (rootR b part cnt' p' (q, c)).2.2))) := fun cnt' p' q c σ rest put hv => ⟨fun h => (ACalls.at_ (ih cnt' h.1 cnt' p' (q, c) rfl h.2.1 h.2.2.1 h.2.2.2.1 h.2.2.2.2)).mono fun x σ' ⟨g1, g2⟩ => ⟨(), g1, g2⟩⟩
    by_cases h4 : p + part.length ≤ 0 ∨ (cnt : Int) ≤ p
    · have e : rootR b part cnt p s = popD s := by unfold rootR; rw [if_pos h4]
      rw [e]
      obtain ⟨path, c⟩ := s
      dsimp only
      cases path with
      | nil =>
        have hz0 : ([] : List D32).length = 0 := rfl
        by_cases h5 : p + part.length ≤ 0
        · repeat' (first | with_reducible apply Stp.go | with_reducible refine imp fun _ => ?_ | (with_reducible refine hyp ?_ ?_; first | assumption | exact leftT_mem (by assumption)) | (with_reducible refine need ?_ ?_; first | trivial | omega | exact ⟨by assumption, by omega⟩ | (simp only [List.length_append, List.length_cons, List.length_nil, List.length_map, List.length_take, List.length_drop, List.length_replicate, List.length_set]; omega)) | (with_reducible refine fact ?_ ?_; first | trivial | exact ⟨rfl, rfl⟩ | kernel_rfl) | with_reducible refine choT (by assumption) ?_ | with_reducible refine choF (by assumption) ?_ | with_reducible refine choF' (by assumption) ?_ | (with_reducible refine altT ?_ ?_; first | omega | (simp only [List.length_append, List.length_cons, List.length_nil, List.length_map, List.length_take, List.length_drop, List.length_replicate, List.length_set]; omega)) | with_reducible refine altF ?_ | with_reducible refine all fun _ => ?_ | with_reducible refine both ?_ ?_ | (with_reducible refine choT ?_ ?_; omega) | (with_reducible refine choF ?_ ?_; omega) | with_reducible refine cho (fun _ => ?_) (fun _ => ?_))
          exact ⟨_, _, _, rfl, Sub.drop_ (List.sublist_cons_self _ _) _, rfl, rfl⟩
        · have h6 : (cnt : Int) ≤ p := by omega
          repeat' (first | with_reducible apply Stp.go | with_reducible refine imp fun _ => ?_ | (with_reducible refine hyp ?_ ?_; first | assumption | exact leftT_mem (by assumption)) | (with_reducible refine need ?_ ?_; first | trivial | omega | exact ⟨by assumption, by omega⟩ | (simp only [List.length_append, List.length_cons, List.length_nil, List.length_map, List.length_take, List.length_drop, List.length_replicate, List.length_set]; omega)) | (with_reducible refine fact ?_ ?_; first | trivial | exact ⟨rfl, rfl⟩ | kernel_rfl) | with_reducible refine choT (by assumption) ?_ | with_reducible refine choF (by assumption) ?_ | with_reducible refine choF' (by assumption) ?_ | (with_reducible refine altT ?_ ?_; first | omega | (simp only [List.length_append, List.length_cons, List.length_nil, List.length_map, List.length_take, List.length_drop, List.length_replicate, List.length_set]; omega)) | with_reducible refine altF ?_ | with_reducible refine all fun _ => ?_ | with_reducible refine both ?_ ?_ | (with_reducible refine choT ?_ ?_; omega) | (with_reducible refine choF ?_ ?_; omega) | with_reducible refine cho (fun _ => ?_) (fun _ => ?_))
          exact ⟨_, _, _, rfl, Sub.drop_ (List.sublist_cons_self _ _) _, rfl, rfl⟩
      | cons x xs =>
        have hz0 : ¬ (x :: xs).length = 0 := by simp
        have hx32 : ((x :: xs).getD 0 default).val.length = 32 := x.len
        have hr32 : (List.replicate 32 (0 : UInt8)).length = 32 := by simp
        by_cases h5 : p + part.length ≤ 0
        · repeat' (first | with_reducible apply Stp.go | with_reducible refine imp fun _ => ?_ | (with_reducible refine hyp ?_ ?_; first | assumption | exact leftT_mem (by assumption)) | (with_reducible refine need ?_ ?_; first | trivial | omega | exact ⟨by assumption, by omega⟩ | (simp only [List.length_append, List.length_cons, List.length_nil, List.length_map, List.length_take, List.length_drop, List.length_replicate, List.length_set]; omega)) | (with_reducible refine fact ?_ ?_; first | trivial | exact ⟨rfl, rfl⟩ | kernel_rfl) | with_reducible refine choT (by assumption) ?_ | with_reducible refine choF (by assumption) ?_ | with_reducible refine choF' (by assumption) ?_ | (with_reducible refine altT ?_ ?_; first | omega | (simp only [List.length_append, List.length_cons, List.length_nil, List.length_map, List.length_take, List.length_drop, List.length_replicate, List.length_set]; omega)) | with_reducible refine altF ?_ | with_reducible refine all fun _ => ?_ | with_reducible refine both ?_ ?_ | (with_reducible refine choT ?_ ?_; omega) | (with_reducible refine choF ?_ ?_; omega) | with_reducible refine cho (fun _ => ?_) (fun _ => ?_))
          exact ⟨_, _, _, rfl, Sub.drop_ (.cons _ (.cons _ (.cons_cons _ .slnil))) _, rfl, rfl⟩
        · have h6 : (cnt : Int) ≤ p := by omega
          repeat' (first | with_reducible apply Stp.go | with_reducible refine imp fun _ => ?_ | (with_reducible refine hyp ?_ ?_; first | assumption | exact leftT_mem (by assumption)) | (with_reducible refine need ?_ ?_; first | trivial | omega | exact ⟨by assumption, by omega⟩ | (simp only [List.length_append, List.length_cons, List.length_nil, List.length_map, List.length_take, List.length_drop, List.length_replicate, List.length_set]; omega)) | (with_reducible refine fact ?_ ?_; first | trivial | exact ⟨rfl, rfl⟩ | kernel_rfl) | with_reducible refine choT (by assumption) ?_ | with_reducible refine choF (by assumption) ?_ | with_reducible refine choF' (by assumption) ?_ | (with_reducible refine altT ?_ ?_; first | omega | (simp only [List.length_append, List.length_cons, List.length_nil, List.length_map, List.length_take, List.length_drop, List.length_replicate, List.length_set]; omega)) | with_reducible refine altF ?_ | with_reducible refine all fun _ => ?_ | with_reducible refine both ?_ ?_ | (with_reducible refine choT ?_ ?_; omega) | (with_reducible refine choF ?_ ?_; omega) | with_reducible refine cho (fun _ => ?_) (fun _ => ?_))
          exact ⟨_, _, _, rfl, Sub.drop_ (.cons _ (.cons _ (.cons_cons _ .slnil))) _, rfl, rfl⟩
    · have h5 : ¬ p + part.length ≤ 0 := by omega
      have h6 : ¬ (cnt : Int) ≤ p := by omega
      by_cases h7 : cnt = 1
      · obtain ⟨j, rfl⟩ : ∃ j : Nat, p = -(j : Int) := ⟨(-p).toNat, by omega⟩
        have e : rootR b part cnt (-(j : Int)) s = (⟨leafD b (part.getD j default), Len32.len⟩, s) := by
          rw [rootR_one h4 (by omega)]
          simp only [Int.neg_neg, Int.toNat_natCast]
        rw [e]
        have h8 : j < part.length := by omega
        have hb0 : (part.getD j default).length ≤ 100000000000000 := hpb _ (by rw [List.getD_eq_getElem?_getD, List.getElem?_eq_getElem h8]; exact List.getElem_mem _)
        have hr32 : (List.replicate 32 (0 : UInt8)).length = 32 := by simp
        have n0 : (leafD b (part.getD j default)).length = 32 := Len32.len
        repeat' (first | with_reducible apply Stp.go | with_reducible refine imp fun _ => ?_ | (with_reducible refine hyp ?_ ?_; first | assumption | exact leftT_mem (by assumption)) | (with_reducible refine need ?_ ?_; first | trivial | omega | exact ⟨by assumption, by omega⟩ | (simp only [List.length_append, List.length_cons, List.length_nil, List.length_map, List.length_take, List.length_drop, List.length_replicate, List.length_set]; omega)) | (with_reducible refine fact ?_ ?_; first | trivial | exact ⟨rfl, rfl⟩ | kernel_rfl) | with_reducible refine choT (by assumption) ?_ | with_reducible refine choF (by assumption) ?_ | with_reducible refine choF' (by assumption) ?_ | (with_reducible refine altT ?_ ?_; first | omega | (simp only [List.length_append, List.length_cons, List.length_nil, List.length_map, List.length_take, List.length_drop, List.length_replicate, List.length_set]; omega)) | with_reducible refine altF ?_ | with_reducible refine all fun _ => ?_ | with_reducible refine both ?_ ?_ | (with_reducible refine choT ?_ ?_; omega) | (with_reducible refine choF ?_ ?_; omega) | with_reducible refine cho (fun _ => ?_) (fun _ => ?_))
        exact ⟨_, _, _, rfl, Sub.drop_ (List.sublist_cons_self _ _) _, rfl, rfl⟩
      · have hh := halfN_lt (n := cnt) (by omega)
        have hk := halfN_log (n := cnt) (m := 62) (by omega) (by omega)
        obtain ⟨q, c⟩ := s
        dsimp only
        have e := rootR_two (b := b) (part := part) (s := (q, c)) h4 (show ¬ cnt ≤ 1 by omega)
        obtain ⟨d1, q1, c1, hX⟩ : ∃ d1 q1 c1, rootR b part (halfN cnt) p (q, c) = (d1, q1, c1) := ⟨_, _, _, rfl⟩
        obtain ⟨d2, q2, c2, hY⟩ : ∃ d2 q2 c2, rootR b part (cnt - halfN cnt) (p - halfN cnt) (q1, c1) = (d2, q2, c2) := ⟨_, _, _, rfl⟩
        rw [hX] at e
        dsimp only at e
        rw [hY] at e
        dsimp only at e
        rw [e]
        dsimp only
        have i1 : ∀ (σ rest : Store) (put : Ent → Store) [hv : VarAt o σ OpT (opn4 b part m q c) put rest], EC Go.Proofs.Try.prog 95 [ptrAt o 0, I .i64 (halfN cnt : Nat), I .i64 p] σ True Unit (fun _ => dgA d1.val) (fun _ => put (.var o OpT (opn4 b part m q1 c1))) := fun σ rest put hv => ⟨fun _ => by
          have := (inst (halfN cnt) p q c σ rest put).ct ⟨by omega, by omega, by omega, h2, h3⟩
          rw [hX] at this
          exact this⟩
        have i2 : ∀ (σ rest : Store) (put : Ent → Store) [hv : VarAt o σ OpT (opn4 b part m q1 c1) put rest], EC Go.Proofs.Try.prog 95 [ptrAt o 0, I .i64 (cnt - halfN cnt : Nat), I .i64 (p - (halfN cnt : Nat))] σ True Unit (fun _ => dgA d2.val) (fun _ => put (.var o OpT (opn4 b part m q2 c2))) := fun σ rest put hv => ⟨fun _ => by
          have := (inst (cnt - halfN cnt) (p - (halfN cnt : Nat)) q1 c1 σ rest put).ct ⟨by omega, by omega, by omega, by omega, by omega⟩
          rw [hY] at this
          exact this⟩
        clear inst
        have n1 := d1.len
        have n2 := d2.len
        have hr32 : (List.replicate 32 (0 : UInt8)).length = 32 := by simp
        have n3 : (nodeD b d1.val d2.val).length = 32 := Len32.len
        repeat' (first | with_reducible apply Stp.go | with_reducible refine imp fun _ => ?_ | (with_reducible refine hyp ?_ ?_; first | assumption | exact leftT_mem (by assumption)) | (with_reducible refine need ?_ ?_; first | trivial | omega | exact ⟨by assumption, by omega⟩ | (simp only [List.length_append, List.length_cons, List.length_nil, List.length_map, List.length_take, List.length_drop, List.length_replicate, List.length_set]; omega)) | (with_reducible refine fact ?_ ?_; first | trivial | exact ⟨rfl, rfl⟩ | kernel_rfl) | with_reducible refine choT (by assumption) ?_ | with_reducible refine choF (by assumption) ?_ | with_reducible refine choF' (by assumption) ?_ | (with_reducible refine altT ?_ ?_; first | omega | (simp only [List.length_append, List.length_cons, List.length_nil, List.length_map, List.length_take, List.length_drop, List.length_replicate, List.length_set]; omega)) | with_reducible refine altF ?_ | with_reducible refine all fun _ => ?_ | with_reducible refine both ?_ ?_ | (with_reducible refine choT ?_ ?_; omega) | (with_reducible refine choF ?_ ?_; omega) | with_reducible refine cho (fun _ => ?_) (fun _ => ?_))
        rename_i t6 _ t9
        refine joinI (β := Unit) (fun _ => True) (fun _ => [ptrAt t6 0]) (fun _ => [.var t6 DgT ((nodeD b d1.val d2.val).map byt), .var o OpT (opn4 b part m q2 c2)]) ?_ ?_
        · repeat' (first | with_reducible apply Stp.go | with_reducible refine imp fun _ => ?_ | (with_reducible refine hyp ?_ ?_; first | assumption | exact leftT_mem (by assumption)) | (with_reducible refine need ?_ ?_; first | trivial | omega | exact ⟨by assumption, by omega⟩ | (simp only [List.length_append, List.length_cons, List.length_nil, List.length_map, List.length_take, List.length_drop, List.length_replicate, List.length_set]; omega)) | (with_reducible refine fact ?_ ?_; first | trivial | exact ⟨rfl, rfl⟩ | kernel_rfl) | with_reducible refine choT (by assumption) ?_ | with_reducible refine choF (by assumption) ?_ | with_reducible refine choF' (by assumption) ?_ | (with_reducible refine altT ?_ ?_; first | omega | (simp only [List.length_append, List.length_cons, List.length_nil, List.length_map, List.length_take, List.length_drop, List.length_replicate, List.length_set]; omega)) | with_reducible refine altF ?_ | with_reducible refine all fun _ => ?_ | with_reducible refine both ?_ ?_ | (with_reducible refine choT ?_ ?_; omega) | (with_reducible refine choF ?_ ?_; omega) | with_reducible refine cho (fun _ => ?_) (fun _ => ?_))
          all_goals exact meet () trivial (Sub.drop_ (List.sublist_cons_self _ _) _)
        · rintro ⟨⟩ _
          repeat' (first | with_reducible apply Stp.go | with_reducible refine imp fun _ => ?_ | (with_reducible refine hyp ?_ ?_; first | assumption | exact leftT_mem (by assumption)) | (with_reducible refine need ?_ ?_; first | trivial | omega | exact ⟨by assumption, by omega⟩ | (simp only [List.length_append, List.length_cons, List.length_nil, List.length_map, List.length_take, List.length_drop, List.length_replicate, List.length_set]; omega)) | (with_reducible refine fact ?_ ?_; first | trivial | exact ⟨rfl, rfl⟩ | kernel_rfl) | with_reducible refine choT (by assumption) ?_ | with_reducible refine choF (by assumption) ?_ | with_reducible refine choF' (by assumption) ?_ | (with_reducible refine altT ?_ ?_; first | omega | (simp only [List.length_append, List.length_cons, List.length_nil, List.length_map, List.length_take, List.length_drop, List.length_replicate, List.length_set]; omega)) | with_reducible refine altF ?_ | with_reducible refine all fun _ => ?_ | with_reducible refine both ?_ ?_ | (with_reducible refine choT ?_ ?_; omega) | (with_reducible refine choF ?_ ?_; omega) | with_reducible refine cho (fun _ => ?_) (fun _ => ?_))
          exact ⟨_, _, _, rfl, Sub.drop_ (List.sublist_cons_self _ _) _, rfl, rfl⟩
theorem CheckRange_ok (b : Int) (root : List UInt8) [hr : Len32 root] (cnt p : Int) (part : List (List UInt8)) (m : SM) (path : List D32) (hc : cnt ≤ 9223372036854775807) (hl : part.length ≤ 1000000000) (hpb : ∀ b ∈ part, b.length ≤ 100000000000000) :
    aPure Go.Proofs.Try.prog 54 [trA b, dgA root, I .i64 cnt, I .i64 p,   .lst 1 (part.map bl) m, .lst 32 (path.map dgF) .ro] (B (checkR b ⟨root, hr.len⟩ cnt p part path)) := by
  refine ACalls.fin (tree_Tree_CheckRange.go ?_)
  unfold tree_Tree_CheckRange.sh
  by_cases h : 0 < part.length ∧ 0 ≤ p ∧ (part.length : Int) ≤ cnt ∧ p ≤ cnt - part.length
  · obtain ⟨n, rfl⟩ := Int.eq_ofNat_of_zero_le (show 0 ≤ cnt by omega)
    have e : checkR b ⟨root, hr.len⟩ n p part path = ((!(rootR b part n p (path, false)).2.2 && decide ((rootR b part n p (path, false)).2.1.length = 0)) && decide ((rootR b part n p (path, false)).1.val = root)) := by
      rw [checkR, decide_eq_true h, Bool.true_and, Int.toNat_natCast]
    rw [e]
    have inst : ∀ (o : Nat) (q : List D32) (c : Bool) (σ rest : Store) (put : Ent → Store) [hv : VarAt o σ OpT (opn4 b part m q c) put rest], EC Go.Proofs.Try.prog 95 [ptrAt o 0, I .i64 (n : Nat), I .i64 p] σ True Unit (fun _ => dgA (rootR b part n p (q, c)).1.val) (fun _ => put (.var o OpT (opn4 b part m (rootR b part n p (q, c)).2.1 (rootR b part n p (q, c)).2.2))) := fun o q c σ rest put hv => ⟨fun _ => (ACalls.at_ (oroot_ok b o part m hl hpb n n p (q, c) rfl (by omega) (by omega) (by omega) (by omega))).mono fun x σ' ⟨g1, g2⟩ => ⟨(), g1, g2⟩⟩
    have n1 := (rootR b part n p (path, false)).1.len
    have n2 := hr.len
    have n3 : (rootR b part n p (path, false)).1.val.length = 32 ∧ root.length = 32 := ⟨n1, n2⟩
    repeat' (first | with_reducible apply Stp.go | with_reducible refine imp fun _ => ?_ | (with_reducible refine hyp ?_ ?_; first | assumption | exact leftT_mem (by assumption)) | (with_reducible refine need ?_ ?_; first | trivial | omega | exact ⟨by assumption, by omega⟩ | (simp only [List.length_append, List.length_cons, List.length_nil, List.length_map, List.length_take, List.length_drop, List.length_replicate, List.length_set]; omega)) | (with_reducible refine fact ?_ ?_; first | trivial | exact ⟨rfl, rfl⟩ | kernel_rfl) | with_reducible refine choT (by assumption) ?_ | with_reducible refine choF (by assumption) ?_ | with_reducible refine choF' (by assumption) ?_ | (with_reducible refine altT ?_ ?_; first | omega | (simp only [List.length_append, List.length_cons, List.length_nil, List.length_map, List.length_take, List.length_drop, List.length_replicate, List.length_set]; omega)) | with_reducible refine altF ?_ | with_reducible refine all fun _ => ?_ | with_reducible refine both ?_ ?_ | (with_reducible refine choT ?_ ?_; omega) | (with_reducible refine choF ?_ ?_; omega) | with_reducible refine cho (fun _ => ?_) (fun _ => ?_))
    all_goals
      refine ⟨_, _, _, rfl, Sub.app_nil _, ?_, rfl⟩
      simp_all
  · have e : checkR b ⟨root, hr.len⟩ cnt p part path = false := by rw [checkR, decide_eq_false h, Bool.false_and]
    rw [e]
    repeat' (first | with_reducible apply Stp.go | with_reducible refine imp fun _ => ?_ | (with_reducible refine hyp ?_ ?_; first | assumption | exact leftT_mem (by assumption)) | (with_reducible refine need ?_ ?_; first | trivial | omega | exact ⟨by assumption, by omega⟩ | (simp only [List.length_append, List.length_cons, List.length_nil, List.length_map, List.length_take, List.length_drop, List.length_replicate, List.length_set]; omega)) | (with_reducible refine fact ?_ ?_; first | trivial | exact ⟨rfl, rfl⟩ | kernel_rfl) | with_reducible refine choT (by assumption) ?_ | with_reducible refine choF (by assumption) ?_ | with_reducible refine choF' (by assumption) ?_ | (with_reducible refine altT ?_ ?_; first | omega | (simp only [List.length_append, List.length_cons, List.length_nil, List.length_map, List.length_take, List.length_drop, List.length_replicate, List.length_set]; omega)) | with_reducible refine altF ?_ | with_reducible refine all fun _ => ?_ | with_reducible refine both ?_ ?_ | (with_reducible refine choT ?_ ?_; omega) | (with_reducible refine choF ?_ ?_; omega) | with_reducible refine cho (fun _ => ?_) (fun _ => ?_))
    all_goals first
      | exact ⟨_, _, _, rfl, Sub.app_nil _, rfl, rfl⟩
      | (exfalso; omega)
instance {a a2 : AV} {root : List UInt8} {part : List (List UInt8)} {m m' : SM} {b : Int} {cnt p : Int} {path : List D32} [hr : Len32 root] [h : IsL a bl 1 part m] [h2 : IsL a2 dgF 32 path m'] : PC Go.Proofs.Try.prog 54 [trA b, dgA root, I .i64 cnt, I .i64 p, a, a2] (cnt ≤ 9223372036854775807 ∧ part.length ≤ 1000000000 ∧ ∀ b ∈ part, b.length ≤ 100000000000000) (B (checkR b ⟨root, hr.len⟩ cnt p part path)) := ⟨fun hl => ⟨[trA b, dgA root, I .i64 cnt, I .i64 p, .lst 1 (part.map bl) m, .lst 32 (path.map dgF) .ro], ⟨SubV.refl _, SubV.refl _, SubV.refl _, SubV.refl _, h.sub, fun R v hv => SubV.ro _ _ _ R v (h2.sub R v hv), trivial⟩, CheckRange_ok b root cnt p part m path hl.1 hl.2.1 hl.2.2⟩⟩
end Go.Ab

/- The document's paths and ranges. -/
set_option linter.unusedVariables false
set_option linter.unusedSimpArgs false
namespace Go.Ab
def ref05_Path.mark : Mark := ⟨fun t => Nat.beq t 29 || Nat.beq t 47 || Nat.beq t 66, fun t => Nat.beq t 22, fun t => false, fun t => false, fun t => false⟩
def ref05_Path.ann : Ann := ⟨fun n => [], fun n => none, fun n => none⟩
def ref05_Above.mark : Mark := ⟨fun t => Nat.beq t 22 || Nat.beq t 37 || Nat.beq t 51 || Nat.beq t 57 || Nat.beq t 73 || Nat.beq t 79, fun t => false, fun t => false, fun t => Nat.beq t 35, fun t => false⟩
def ref05_Above.ann : Ann := ⟨fun n => [], fun n => none, fun n => none⟩
def ref05_Check.mark : Mark := ⟨fun t => Nat.beq t 28, fun t => false, fun t => Nat.beq t 7, fun t => Nat.beq t 34, fun t => false⟩
def ref05_Check.ann : Ann := ⟨fun n => [], fun n => none, fun n => none⟩
def ref05_beside.mark : Mark := ⟨fun t => Nat.beq t 23 || Nat.beq t 31, fun t => Nat.beq t 25, fun t => false, fun t => false, fun t => false⟩
def ref05_beside.ann : Ann := ⟨fun n => [], fun n => none, fun n => none⟩
def ref05_Range.mark : Mark := ⟨fun t => false, fun t => false, fun t => false, fun t => false, fun t => false⟩
def ref05_Range.ann : Ann := ⟨fun n => [], fun n => none, fun n => none⟩
end Go.Ab

/- The document's leaves held against a root. -/
set_option linter.unusedVariables false
set_option linter.unusedSimpArgs false
namespace Go.Ab
section over
variable {b : Int} {part : List (List UInt8)} {cnt : Nat} {p : Int} {path : List D32}
end over
theorem rootR_bad (b : Int) (part : List (List UInt8)) : ∀ (n cnt : Nat) (p : Int) (path : List D32), cnt = n → (rootR b part cnt p (path, true)).2.2 = true := by
  intro n
  induction n using Nat.strongRecOn with
  | _ n ih =>
    intro cnt p path hn
    by_cases h : p + part.length ≤ 0 ∨ (cnt : Int) ≤ p
    · rw [rootR_out h]
      cases path <;> rfl
    · by_cases h1 : cnt ≤ 1
      · rw [rootR_one h h1]
      · have hh := halfN_lt (n := cnt) (by omega)
        rw [rootR_two h h1]
        obtain ⟨d1, q1, c1, hX⟩ : ∃ d1 q1 c1, rootR b part (halfN cnt) p (path, true) = (d1, q1, c1) := ⟨_, _, _, rfl⟩
        have i1 := ih (halfN cnt) (by omega) (halfN cnt) p path rfl
        rw [hX] at i1 ⊢
        have i1 : c1 = true := i1
        subst i1
        exact ih (cnt - halfN cnt) (by omega) (cnt - halfN cnt) (p - halfN cnt) q1 rfl
def ref05_Over.mark : Mark := ⟨fun t => Nat.beq t 45 || Nat.beq t 47 || Nat.beq t 54 || Nat.beq t 73 || Nat.beq t 80, fun t => false, fun t => false, fun t => Nat.beq t 36 || Nat.beq t 44, fun t => false⟩
def ref05_Over.ann : Ann := ⟨fun n => [], fun n => none, fun n => none⟩
def ref05_CheckRange.mark : Mark := ⟨fun t => Nat.beq t 43, fun t => false, fun t => Nat.beq t 7, fun t => Nat.beq t 56, fun t => false⟩
def ref05_CheckRange.ann : Ann := ⟨fun n => [], fun n => none, fun n => none⟩
end Go.Ab

/- ref11.Leaves, ref11.Describe. -/
set_option linter.unusedVariables false
set_option linter.unusedSimpArgs false
namespace Go.Ab
def ref11_Leaves.mark : Mark := ⟨fun t => Nat.beq t 16, fun t => false, fun t => false, fun t => Nat.beq t 15, fun t => false⟩
def ref11_Leaves.ann : Ann := ⟨fun n => bif Nat.beq n 3 then [0, 3, 4] else [], fun n => none, fun n => none⟩
end Go.Ab

/- The reference's fold. -/
set_option linter.unusedVariables false
set_option linter.unusedSimpArgs false
namespace Go.Ab
theorem foldE_take_succ {l : List En} {i : Nat} (h : i < l.length) : foldE (l.take (i + 1)) = putE (l.getD i default) (foldE (l.take i)) := by rw [take_succ_d h, foldE_snoc]
end Go.Ab
