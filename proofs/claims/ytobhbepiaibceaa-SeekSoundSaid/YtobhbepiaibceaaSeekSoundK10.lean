/- The texts that this claim needs, part 10: a logic over abstract values, its steps, what the functions do. No condition of its own. -/
import Derived.ChangeKeysEq
import Derived.Test.YtobhbepiaibceaaSeekSoundK9
/- Arrays of bytes held against one another. -/
set_option linter.unusedVariables false
set_option linter.unusedSimpArgs false
namespace Go.Ab
abbrev bytv (b : UInt8) : Value := .int .u8 b.toNat
theorem run_items {P : Program} {e : TypeId} (he : P.underlying e = some (.int .u8)) (c c' : List UInt8) (d : Nat) (w : World) : ∀ is : List Nat, (∀ i ∈ is, i < c.length ∧ i < c'.length) →
    (Op.eqItems (d + 1) e 1 (c.map bytv).toArray (c'.map bytv).toArray is).run P w = .ok (is.all fun i => decide (c.getD i 0 = c'.getD i 0)) w
  | [], _ => by simp [Op.eqItems]
  | i :: is, h => by
    obtain ⟨h1, h2⟩ := h i List.mem_cons_self
    have ih := run_items he c c' d w is fun j hj => h j (List.mem_cons_of_mem _ hj)
    have p1 : (part e (c.map bytv).toArray (i * 1)).run P w = .ok (bytv (c.getD i 0)) w := part_plain he rfl (by simp [List.getD_eq_getElem?_getD, h1]) w
    have p2 : (part e (c'.map bytv).toArray (i * 1)).run P w = .ok (bytv (c'.getD i 0)) w := part_plain he rfl (by simp [List.getD_eq_getElem?_getD, h2]) w
    have p3 : (Op.equalIn (d + 1) e (bytv (c.getD i 0)) (bytv (c'.getD i 0))).run P w = .ok (decide (c.getD i 0 = c'.getD i 0)) w := by
      rw [run_equalIn_int w d e .u8 .u8 _ _ he]
      congr 1
      rw [Bool.eq_iff_iff, beq_iff_eq, decide_eq_true_eq]
      constructor
      · intro h; exact UInt8.toNat_inj.1 (Int.ofNat.inj h)
      · intro h; rw [h]
    simp only [Op.eqItems, Sem.run_bind, p1, p2, p3, Result.andThen_ok, List.all_cons]
    by_cases hh : c.getD i 0 = c'.getD i 0
    · rw [decide_eq_true hh]; simpa using ih
    · rw [decide_eq_false hh]; simp
theorem all_same {c c' : List UInt8} {n : Nat} (h : c.length = n) (h' : c'.length = n) : ((List.range n).all fun i => decide (c.getD i 0 = c'.getD i 0)) = decide (c = c') := by
  rw [Bool.eq_iff_iff, List.all_eq_true, decide_eq_true_eq]
  constructor
  · intro hh
    apply List.ext_getElem (by omega)
    intro i h1 h2
    have := hh i (List.mem_range.2 (by omega))
    simpa [List.getD_eq_getElem?_getD, h1, h2] using this
  · rintro rfl i _; simp
class ArrB (P : Program) (t : TypeId) (n : outParam Nat) : Prop where
  h : ∃ e, P.underlying t = some (.array n e) ∧ P.underlying e = some (.int .u8) ∧ (P.info? e).isSome = true ∧ P.cellsOf e = 1 ∧ P.eqGuardType P.depth t = false
theorem allVals_byt (c : List UInt8) : allVals (c.map byt) = some (c.map bytv) := by
  induction c with
  | nil => rfl
  | cons a c ih => simp [allVals, ih, byt]
theorem arr_plain (c : List UInt8) : plainV (.agg (c.map byt)) = some (.agg (c.map bytv).toArray) := by
  simp [plainV, allVals_byt]
section arr
variable {P : Program} {t : TypeId} {n : Nat} {c c' : List UInt8} {K : AV → Prop}
theorem run_arr [h : ArrB P t n] (h1 : c.length = n) (h2 : c'.length = n) (w : World) : (Op.equalIn 10000 t (.agg (c.map bytv).toArray) (.agg (c'.map bytv).toArray)).run P w = .ok (decide (c = c')) w := by
  obtain ⟨e, g1, g2, g3, g4, g5⟩ := h.h
  obtain ⟨i, g3⟩ := Option.isSome_iff_exists.1 g3
  show (Op.equalIn (9998 + 1 + 1) t _ _).run P w = _
  rw [run_equalIn_array w (9998 + 1) _ _ g1 g3, g4, run_items g2 c c' 9998 w _ (fun i hi => by have := List.mem_range.1 hi; omega), all_same h1 h2]
instance eqArr [h : ArrB P t n] : Stp (Do (aBin P .eql t (.agg (c.map byt)) (.agg (c'.map byt))) K) (Need (c.length = n ∧ c'.length = n) (K (.val (.bool (decide (c = c')))))) := ⟨fun ⟨⟨h1, h2⟩, hK⟩ => by
  refine ⟨_, (aBin_plain (arr_plain c) (arr_plain c') fun xo yo w => ?_).2 rfl, hK⟩
  obtain ⟨e, g1, g2, g3, g4, g5⟩ := h.h
  simp only [Sem.run_bind, run_eqGuard_agg w .eql t xo yo _ _ g5, Result.andThen_ok, run_eql_struct, run_arr (t := t) h1 h2 w, Result.andThen_ok]⟩
end arr
instance : ArrB Go.Proofs.Try.prog 46 32 := ⟨⟨5, by kernel_rfl, by kernel_rfl, by kernel_rfl, by kernel_rfl, by kernel_rfl⟩⟩
end Go.Ab

/- A leaf held against a root. -/
set_option linter.unusedVariables false
set_option linter.unusedSimpArgs false
namespace Go.Ab
instance (priority := 75) ldFD {l : List UInt8} {K : AV → Prop} [hl : Len32 l] : Stp (Do (loadF true 32 (.rptr (l.map byt))) K) (K (dgA l)) := ⟨fun hK => ⟨_, ⟨by decide, fun h => by (cases h), by simp [hl.len], by
  rw [List.take_of_length_le (by simp [hl.len])]; rfl⟩, hK⟩⟩
def tree_Tree_swapped.mark : Mark := ⟨fun t => false, fun t => false, fun t => Nat.beq t 3 || Nat.beq t 4 || Nat.beq t 5, fun t => Nat.beq t 7 || Nat.beq t 8 || Nat.beq t 9, fun t => false⟩
def tree_Tree_swapped.ann : Ann := ⟨fun n => [], fun n => none, fun n => none⟩
/-- '(marlstone/tree.Tree).swapped' -/
def tree_Tree_swapped.sh (a0 a1 a2 : AV) (σ : Store) (Q : AEnd → Store → Prop) : Prop :=
  Do (aFreeze ((a0 : AV)).cells) fun t3 =>
  Do (aFreeze ((a1 : AV)).cells) fun t4 =>
  Do (aFreeze ((a2 : AV)).cells) fun t5 =>
  aNewVar 46 [.val (.int .u8 0), .val (.int .u8 0), .val (.int .u8 0), .val (.int .u8 0), .val (.int .u8 0), .val (.int .u8 0), .val (.int .u8 0), .val (.int .u8 0), .val (.int .u8 0), .val (.int .u8 0), .val (.int .u8 0), .val (.int .u8 0), .val (.int .u8 0), .val (.int .u8 0), .val (.int .u8 0), .val (.int .u8 0), .val (.int .u8 0), .val (.int .u8 0), .val (.int .u8 0), .val (.int .u8 0), .val (.int .u8 0), .val (.int .u8 0), .val (.int .u8 0), .val (.int .u8 0), .val (.int .u8 0), .val (.int .u8 0), .val (.int .u8 0), .val (.int .u8 0), .val (.int .u8 0), .val (.int .u8 0), .val (.int .u8 0), .val (.int .u8 0)] σ fun t6 σ =>
  Do (loadF true 1 t3) fun t7 =>
  Do (loadF true 32 t5) fun t8 =>
  Do (loadF true 32 t4) fun t9 =>
  aCall Go.Proofs.Try.prog 71 [t7, t8, t9] σ (fun t10 σ_1 =>
  storeA 32 t6 t10 σ_1 fun u σ_2 =>
  Do (loadA true 32 t6 σ_2) fun r6 => Q (.ret r6) σ_2) (fun e σ_3 => Q (.pan e) σ_3)
theorem tree_Tree_swapped.eq (a0 a1 a2 : AV) (σ : Store) (Q : AEnd → Store → Prop) : vc (semOf Go.Proofs.Try.prog tree_Tree_swapped.mark) Go.Proofs.Try.f103.ntmps tree_Tree_swapped.ann (bodyOf Go.Proofs.Try.f103) (endK [.cell 6 true 32] Q) (argFr [a0, a1, a2]) σ = tree_Tree_swapped.sh a0 a1 a2 σ Q := by kernel_rfl
theorem tree_Tree_swapped.go {a0 a1 a2 : AV} {σ : Store} {Q : AEnd → Store → Prop} (h : tree_Tree_swapped.sh a0 a1 a2 σ Q) : ACalls Go.Proofs.Try.prog 103 [a0, a1, a2] σ Q :=
  acalls_of_eq [.cell 6 true 32] Go.Proofs.Try.func103 (by kernel_rfl) (by kernel_rfl) (by kernel_rfl) (by kernel_rfl) (tree_Tree_swapped.eq a0 a1 a2 σ Q) h
def tree_Tree_Check.mark : Mark := ⟨fun t => false, fun t => false, fun t => Nat.beq t 6 || Nat.beq t 7, fun t => Nat.beq t 50 || Nat.beq t 59 || Nat.beq t 68 || Nat.beq t 74, fun t => false⟩
def tree_Tree_Check.ann : Ann := ⟨fun n => bif Nat.beq n 4 then [2, 3, 4, 5, 6, 7, 13] else bif Nat.beq n 13 then [6, 7, 13, 15, 53, 54, 55] else [], fun n => none, fun n => none⟩
/-- '(marlstone/tree.Tree).Check' -/
def tree_Tree_Check.sh (a0 a1 a2 a3 a4 a5 : AV) (σ : Store) (Q : AEnd → Store → Prop) : Prop :=
  Do (aFreeze ((a0 : AV)).cells) fun t6 =>
  Do (aFreeze ((a1 : AV)).cells) fun t7 =>
  Do (aBin Go.Proofs.Try.prog .lss 3 a3 (.val (.int .i64 0))) fun t19 =>
  Do (aGuard t19 false (aIs a3)) fun t21 =>
  Do (aGuard t19 false (aIs a2)) fun t22 =>
  Do (aGuard t19 false (aBin Go.Proofs.Try.prog .geq 3 t21 t22)) fun t23 =>
  Do (aPick t19 (.val (.bool true)) t23) fun t24 =>
  aCond t24
    (Q (.ret (.val (.bool false))) σ)
    (aLoop (fun go vs σ =>
    At vs 0 fun s2 => At vs 1 fun s3 => At vs 2 fun s4 => At vs 3 fun s5 => At vs 4 fun s6 => At vs 5 fun s7 => At vs 6 fun s13 => Do (aBin Go.Proofs.Try.prog .gtr 3 s2 (.val (.int .i64 1))) fun t26 =>
    aCond t26
      (aCall Go.Proofs.Try.prog 100 [s2] σ (fun t28 σ_1 =>
    Do (aBin Go.Proofs.Try.prog .lss 3 s3 t28) fun t31 =>
    aCond t31
      (Do (aSlLit (mkE [.val .nilFunc]) 1 1 [(0, (.val (.func (.func 71) #[] #[])))]) fun t33 =>
      aAppend 145 1 8 s13 t33 σ_1 (subK fun t34 σ_2 =>
      go [t28, s3, s4, s5, s6, s7, t34] σ_2))
      (Do (aSlLit (mkE [.val .nilFunc]) 1 1 [(0, (.val (.func (.func 103) #[] #[])))]) fun t37 =>
      aAppend 145 1 8 s13 t37 σ_1 (subK fun t38 σ_3 =>
      Do (aBin Go.Proofs.Try.prog .sub 3 s2 t28) fun t41 =>
      Do (aBin Go.Proofs.Try.prog .sub 3 s3 t28) fun t44 =>
      go [t41, t44, s4, s5, s6, s7, t38] σ_3))) (fun e σ_4 => Q (.pan e) σ_4))
      (Do (aBuiltin Go.Proofs.Try.prog .len #[28] [s5]) fun t46 =>
  Do (aBuiltin Go.Proofs.Try.prog .len #[144] [s13]) fun t48 =>
  Do (aBin Go.Proofs.Try.prog .neq 3 t46 t48) fun t49 =>
  aCond t49
    (Q (.ret (.val (.bool false))) σ)
    (Do (loadF true 1 s6) fun t50 =>
  aCall Go.Proofs.Try.prog 66 [t50, s4] σ (fun t52 σ_5 =>
  aNewVar 46 [.val (.int .u8 0), .val (.int .u8 0), .val (.int .u8 0), .val (.int .u8 0), .val (.int .u8 0), .val (.int .u8 0), .val (.int .u8 0), .val (.int .u8 0), .val (.int .u8 0), .val (.int .u8 0), .val (.int .u8 0), .val (.int .u8 0), .val (.int .u8 0), .val (.int .u8 0), .val (.int .u8 0), .val (.int .u8 0), .val (.int .u8 0), .val (.int .u8 0), .val (.int .u8 0), .val (.int .u8 0), .val (.int .u8 0), .val (.int .u8 0), .val (.int .u8 0), .val (.int .u8 0), .val (.int .u8 0), .val (.int .u8 0), .val (.int .u8 0), .val (.int .u8 0), .val (.int .u8 0), .val (.int .u8 0), .val (.int .u8 0), .val (.int .u8 0)] σ_5 fun t15 σ_6 =>
  storeA 32 t15 t52 σ_6 fun u σ_7 =>
  Do (aBuiltin Go.Proofs.Try.prog .len #[28] [s5]) fun t54 =>
  aLoop (fun go_1 vs_1 σ_8 =>
    At vs_1 0 fun s6_1 => At vs_1 1 fun s7_1 => At vs_1 2 fun s13_1 => At vs_1 3 fun s15 => At vs_1 4 fun s53 => At vs_1 5 fun s54 => At vs_1 6 fun s55 => Do (aBin Go.Proofs.Try.prog .lss 3 s55 s54) fun t56 =>
    aCond t56
      (Do (aIndexAddr .slice 32 s53 s55) fun t58 =>
    Do (loadF true 32 t58) fun t59 =>
    aNewVar 46 [.val (.int .u8 0), .val (.int .u8 0), .val (.int .u8 0), .val (.int .u8 0), .val (.int .u8 0), .val (.int .u8 0), .val (.int .u8 0), .val (.int .u8 0), .val (.int .u8 0), .val (.int .u8 0), .val (.int .u8 0), .val (.int .u8 0), .val (.int .u8 0), .val (.int .u8 0), .val (.int .u8 0), .val (.int .u8 0), .val (.int .u8 0), .val (.int .u8 0), .val (.int .u8 0), .val (.int .u8 0), .val (.int .u8 0), .val (.int .u8 0), .val (.int .u8 0), .val (.int .u8 0), .val (.int .u8 0), .val (.int .u8 0), .val (.int .u8 0), .val (.int .u8 0), .val (.int .u8 0), .val (.int .u8 0), .val (.int .u8 0), .val (.int .u8 0)] σ_8 fun t17 σ_9 =>
    storeA 32 t17 t59 σ_9 fun u_1 σ_10 =>
    Do (aBuiltin Go.Proofs.Try.prog .len #[144] [s13_1]) fun t62 =>
    Do (aBin Go.Proofs.Try.prog .sub 3 t62 (.val (.int .i64 1))) fun t63 =>
    Do (aBin Go.Proofs.Try.prog .sub 3 t63 s55) fun t65 =>
    Do (aIndexAddr .slice 1 s13_1 t65) fun t66 =>
    Do (loadA false 1 t66 σ_10) fun t67 =>
    Do (loadF true 1 s6_1) fun t68 =>
    Do (loadA true 32 s15 σ_10) fun t69 =>
    Do (loadA true 32 t17 σ_10) fun t70 =>
    aCallV Go.Proofs.Try.prog t67 [t68, t69, t70] σ_10 (fun t71 σ_11 =>
    storeA 32 s15 t71 σ_11 fun u_2 σ_12 =>
    Do (aBin Go.Proofs.Try.prog .add 3 s55 (.val (.int .i64 1))) fun t72 =>
    go_1 [s6_1, s7_1, s13_1, s15, s53, s54, t72] σ_12) (fun e_1 σ_13 => Q (.pan e_1) σ_13))
      (Do (loadA true 32 s15 σ_8) fun t73 =>
  Do (loadF true 32 s7_1) fun t74 =>
  Do (aBin Go.Proofs.Try.prog .eql 46 t73 t74) fun t75 =>
  Q (.ret t75) σ_8))
    [s6, s7, s13, t15, s5, t54, (.val (.int .i64 0))] σ_7) (fun e_2 σ_14 => Q (.pan e_2) σ_14))))
    [a2, a3, a4, a5, t6, t7, (.val (.slice none 0 0))] σ)
theorem tree_Tree_Check.eq (a0 a1 a2 a3 a4 a5 : AV) (σ : Store) (Q : AEnd → Store → Prop) : vc (semOf Go.Proofs.Try.prog tree_Tree_Check.mark) Go.Proofs.Try.f64.ntmps tree_Tree_Check.ann (bodyOf Go.Proofs.Try.f64) (endK [.tmp 12] Q) (argFr [a0, a1, a2, a3, a4, a5]) σ = tree_Tree_Check.sh a0 a1 a2 a3 a4 a5 σ Q := by kernel_rfl
theorem tree_Tree_Check.go {a0 a1 a2 a3 a4 a5 : AV} {σ : Store} {Q : AEnd → Store → Prop} (h : tree_Tree_Check.sh a0 a1 a2 a3 a4 a5 σ Q) : ACalls Go.Proofs.Try.prog 64 [a0, a1, a2, a3, a4, a5] σ Q :=
  acalls_of_eq [.tmp 12] Go.Proofs.Try.func64 (by kernel_rfl) (by kernel_rfl) (by kernel_rfl) (by kernel_rfl) (tree_Tree_Check.eq a0 a1 a2 a3 a4 a5 σ Q) h
theorem swapped_ok (bits : Int) (r l : List UInt8) [hl : Len32 l] [hr : Len32 r] : aPure Go.Proofs.Try.prog 103 [trA bits, dgA r, dgA l] (dgA (nodeD bits l r)) := by
  refine ACalls.fin (tree_Tree_swapped.go ?_)
  unfold tree_Tree_swapped.sh
  have h1 := hl.len
  have h2 := hr.len
  have h32 : (nodeD bits l r).length = 32 := Len32.len
  repeat' (first | with_reducible apply Stp.go | with_reducible refine imp fun _ => ?_ | (with_reducible refine hyp ?_ ?_; first | assumption | exact leftT_mem (by assumption)) | (with_reducible refine need ?_ ?_; first | trivial | omega | exact ⟨by assumption, by omega⟩ | (simp only [List.length_append, List.length_cons, List.length_nil, List.length_map, List.length_take, List.length_drop, List.length_replicate, List.length_set]; omega)) | (with_reducible refine fact ?_ ?_; first | trivial | exact ⟨rfl, rfl⟩ | kernel_rfl) | with_reducible refine choT (by assumption) ?_ | with_reducible refine choF (by assumption) ?_ | with_reducible refine choF' (by assumption) ?_ | (with_reducible refine altT ?_ ?_; first | omega | (simp only [List.length_append, List.length_cons, List.length_nil, List.length_map, List.length_take, List.length_drop, List.length_replicate, List.length_set]; omega)) | with_reducible refine altF ?_ | with_reducible refine all fun _ => ?_ | with_reducible refine both ?_ ?_ | (with_reducible refine choT ?_ ?_; omega) | (with_reducible refine choF ?_ ?_; omega) | with_reducible refine cho (fun _ => ?_) (fun _ => ?_))
  exact ⟨_, _, _, rfl, Sub.app_nil _, rfl, rfl⟩
instance {l r : List UInt8} {b : Int} [hl : Len32 l] [hr : Len32 r] : PC Go.Proofs.Try.prog 103 [trA b, dgA r, dgA l] True (dgA (nodeD b l r)) := ⟨fun _ => PC.of (swapped_ok b r l)⟩
/-- The way down to a leaf: to the left, or not. -/
def upL (cnt i : Nat) : List Bool :=
  if h : cnt ≤ 1 then []
  else if i < halfN cnt then true :: upL (halfN cnt) i
  else false :: upL (cnt - halfN cnt) (i - halfN cnt)
termination_by cnt
decreasing_by
  · have := halfN_lt (n := cnt) (by omega); omega
  · have := halfN_lt (n := cnt) (by omega); omega
/-- The node of what one has and what stands beside it. -/
def stepD (b : Int) (u : Bool) (d x : D32) : D32 := if u = true then ⟨nodeD b d.val x.val, Len32.len⟩ else ⟨nodeD b x.val d.val, Len32.len⟩
/-- The way up. -/
def climb (b : Int) : List Bool → List D32 → D32 → D32
  | u :: us, x :: xs, d => climb b us xs (stepD b u d x)
  | _, _, d => d
theorem climb_step (b : Int) {U : List Bool} {path : List D32} (d : D32) {q : Nat} (hp : path.length = U.length) (hq : q < path.length) : climb b (U.reverse.drop q) (path.drop q) d = climb b (U.reverse.drop (q + 1)) (path.drop (q + 1)) (stepD b (U.getD (U.length - 1 - q) default) d (path.getD q default)) := by
  have h1 : q < U.reverse.length := by rw [List.length_reverse]; omega
  rw [List.drop_eq_getElem_cons h1, List.drop_eq_getElem_cons hq]
  show climb b _ _ (stepD b _ d _) = _
  have e1 : U.reverse[q] = U.getD (U.length - 1 - q) default := by
    rw [List.getElem_reverse, List.getD_eq_getElem?_getD, List.getElem?_eq_getElem (by omega)]; rfl
  have e2 : path[q] = path.getD q default := by rw [List.getD_eq_getElem?_getD, List.getElem?_eq_getElem hq]; rfl
  rw [e1, e2]
def fnU (u : Bool) : AV := .val (.func (.func (bif u then 71 else 103)) #[] #[])
instance : Enc fnU 1 := ⟨fun u => ⟨rfl, fun c hc => by rw [List.mem_singleton.1 (show c ∈ [fnU u] from hc)]; rfl⟩, by decide, fun _ => rfl⟩
instance : ElemF [.val .nilFunc] Bool fnU := ⟨trivial⟩
instance : AsF fnU (.val (.func (.func 71) #[] #[])) true := ⟨rfl⟩
instance : AsF fnU (.val (.func (.func 103) #[] #[])) false := ⟨rfl⟩
instance (u : Bool) : Cells (fnU u) [fnU u] := ⟨rfl⟩
theorem upL_log : ∀ (m cnt i : Nat), cnt ≤ 2 ^ m → (upL cnt i).length ≤ m := by
  intro m
  induction m with
  | zero =>
    intro cnt i h
    unfold upL
    rw [dif_pos (by simpa using h)]
    simp
  | succ m ih =>
    intro cnt i h
    unfold upL
    split
    · simp
    · rename_i h1
      obtain ⟨h2, h3⟩ := halfN_log (n := cnt) (by omega) h
      split
      · have := ih _ i h2
        simp only [List.length_cons]; omega
      · have := ih _ (i - halfN cnt) h3
        simp only [List.length_cons]; omega
theorem upL_63 {cnt : Nat} (h : cnt ≤ 9223372036854775807) (i : Nat) : (upL cnt i).length ≤ 63 := upL_log 63 cnt i (by simpa using Nat.le_of_lt (Nat.lt_succ_of_le h))
/-- Is a leaf under a root. -/
def checkB (b : Int) (root : D32) (cnt i : Nat) (leaf : List UInt8) (path : List D32) : Bool :=
  decide (path.length = (upL cnt i).length) && decide ((climb b (upL cnt i).reverse path ⟨leafD b leaf, Len32.len⟩).val = root.val)
theorem Check_nat (b : Int) (root : List UInt8) [hr : Len32 root] (cnt i : Nat) (leaf : List UInt8) (m m' : SM) (path : List D32) (hi : i < cnt) (hc : cnt ≤ 9223372036854775807) (hl : leaf.length ≤ 100000000000000) :
    aPure Go.Proofs.Try.prog 64 [trA b, dgA root, I .i64 (cnt : Nat), I .i64 (i : Nat), .lst 1 (leaf.map byt) m, .lst 32 (path.map dgF) m'] (B (checkB b ⟨root, hr.len⟩ cnt i leaf path)) := by
  refine ACalls.fin (tree_Tree_Check.go ?_)
  unfold tree_Tree_Check.sh
  repeat' (first | with_reducible apply Stp.go | with_reducible refine imp fun _ => ?_ | (with_reducible refine hyp ?_ ?_; first | assumption | exact leftT_mem (by assumption)) | (with_reducible refine need ?_ ?_; first | trivial | omega | exact ⟨by assumption, by omega⟩ | (simp only [List.length_append, List.length_cons, List.length_nil, List.length_map, List.length_take, List.length_drop, List.length_replicate, List.length_set]; omega)) | (with_reducible refine fact ?_ ?_; first | trivial | exact ⟨rfl, rfl⟩ | kernel_rfl) | with_reducible refine choT (by assumption) ?_ | with_reducible refine choF (by assumption) ?_ | with_reducible refine choF' (by assumption) ?_ | (with_reducible refine altT ?_ ?_; first | omega | (simp only [List.length_append, List.length_cons, List.length_nil, List.length_map, List.length_take, List.length_drop, List.length_replicate, List.length_set]; omega)) | with_reducible refine altF ?_ | with_reducible refine all fun _ => ?_ | with_reducible refine both ?_ ?_ | (with_reducible refine choT ?_ ?_; omega) | (with_reducible refine choF ?_ ?_; omega) | with_reducible refine cho (fun _ => ?_) (fun _ => ?_))
  refine loopI (β := Nat × Nat × Value × List Bool) (fun x => x.2.1 < x.1 ∧ x.1 ≤ cnt ∧ x.2.2.2 ++ upL x.1 x.2.1 = upL cnt i) (fun x => [I .i64 (x.1 : Nat), I .i64 (x.2.1 : Nat), .lst 1 (leaf.map byt) m, .lst 32 (path.map dgF) m', .rptr [I .i64 b], .rptr (root.map byt), .own x.2.2.1 x.2.2.2.length]) (fun x => [.row x.2.2.1 145 1 (x.2.2.2.map fnU) 0]) (fun x => x.1) (cnt, i, .slice none 0 0, []) ⟨hi, Nat.le_refl _, rfl⟩ (Sub.nil_own 145 (sz := 1) (by decide) [] [I .i64 (cnt : Nat), I .i64 (i : Nat), .lst 1 (leaf.map byt) m, .lst 32 (path.map dgF) m', .rptr [I .i64 b], .rptr (root.map byt)] []) ?_
  rintro ⟨n, j, v, us⟩ ⟨h1, h2, h3⟩
  dsimp only at h1 h2 h3 ⊢
  have hul := upL_63 hc i
  have hus : us.length ≤ 63 := by have := congrArg List.length h3; rw [List.length_append] at this; omega
  by_cases h4 : n ≤ 1
  · have e : upL n j = [] := by unfold upL; rw [dif_pos h4]
    rw [e, List.append_nil] at h3
    subst h3
    have hk : (leafD b leaf).length = 32 := Len32.len
    have hr2 := hr.len
    by_cases hp : path.length = (upL cnt i).length
    · generalize hU : upL cnt i = U at *
      have e0 : checkB b ⟨root, hr.len⟩ cnt i leaf path = decide ((climb b U.reverse path ⟨leafD b leaf, hk⟩).val = root) := by
        rw [checkB, hU, decide_eq_true hp, Bool.true_and]
      rw [e0]
      repeat' (first | with_reducible apply Stp.go | with_reducible refine imp fun _ => ?_ | (with_reducible refine hyp ?_ ?_; first | assumption | exact leftT_mem (by assumption)) | (with_reducible refine need ?_ ?_; first | trivial | omega | exact ⟨by assumption, by omega⟩ | (simp only [List.length_append, List.length_cons, List.length_nil, List.length_map, List.length_take, List.length_drop, List.length_replicate, List.length_set]; omega)) | (with_reducible refine fact ?_ ?_; first | trivial | exact ⟨rfl, rfl⟩ | kernel_rfl) | with_reducible refine choT (by assumption) ?_ | with_reducible refine choF (by assumption) ?_ | with_reducible refine choF' (by assumption) ?_ | (with_reducible refine altT ?_ ?_; first | omega | (simp only [List.length_append, List.length_cons, List.length_nil, List.length_map, List.length_take, List.length_drop, List.length_replicate, List.length_set]; omega)) | with_reducible refine altF ?_ | with_reducible refine all fun _ => ?_ | with_reducible refine both ?_ ?_ | (with_reducible refine choT ?_ ?_; omega) | (with_reducible refine choF ?_ ?_; omega) | with_reducible refine cho (fun _ => ?_) (fun _ => ?_))
      refine loopI (β := Nat × D32) (fun x => x.1 ≤ path.length ∧ climb b (U.reverse.drop x.1) (path.drop x.1) x.2 = climb b U.reverse path ⟨leafD b leaf, hk⟩) (fun x => [.rptr [I .i64 b], .rptr (root.map byt), .own v U.length, ptrAt _ 0, .lst 32 (path.map dgF) m', I .i64 (path.length : Nat), I .i64 (x.1 : Nat)]) (fun x => [.var _ DgT (x.2.val.map byt), .row v 145 1 (U.map fnU) 0]) (fun x => path.length - x.1) (0, ⟨leafD b leaf, hk⟩) ⟨Nat.zero_le _, rfl⟩ (Sub.refl _ _) ?_
      rintro ⟨q, d⟩ ⟨g1, g2⟩
      dsimp only at g1 g2 ⊢
      have gd := d.len
      by_cases g3 : q < path.length
      · have g4 : U.length - 1 - q < U.length := by omega
        have gp := (path.getD q default).len
        have gs := climb_step b d hp g3
        have n1 : (nodeD b d.val (path.getD q default).val).length = 32 := Len32.len
        have n2 : (nodeD b (path.getD q default).val d.val).length = 32 := Len32.len
        cases hu : U.getD (U.length - 1 - q) default with
        | true =>
          repeat' (first | with_reducible apply Stp.go | with_reducible refine imp fun _ => ?_ | (with_reducible refine hyp ?_ ?_; first | assumption | exact leftT_mem (by assumption)) | (with_reducible refine need ?_ ?_; first | trivial | omega | exact ⟨by assumption, by omega⟩ | (simp only [List.length_append, List.length_cons, List.length_nil, List.length_map, List.length_take, List.length_drop, List.length_replicate, List.length_set]; omega)) | (with_reducible refine fact ?_ ?_; first | trivial | exact ⟨rfl, rfl⟩ | kernel_rfl) | with_reducible refine choT (by assumption) ?_ | with_reducible refine choF (by assumption) ?_ | with_reducible refine choF' (by assumption) ?_ | (with_reducible refine altT ?_ ?_; first | omega | (simp only [List.length_append, List.length_cons, List.length_nil, List.length_map, List.length_take, List.length_drop, List.length_replicate, List.length_set]; omega)) | with_reducible refine altF ?_ | with_reducible refine all fun _ => ?_ | with_reducible refine both ?_ ?_ | (with_reducible refine choT ?_ ?_; omega) | (with_reducible refine choF ?_ ?_; omega) | with_reducible refine cho (fun _ => ?_) (fun _ => ?_))
          rw [hu, show fnU true = .val (.func (.func 71) #[] #[]) from rfl]
          repeat' (first | with_reducible apply Stp.go | with_reducible refine imp fun _ => ?_ | (with_reducible refine hyp ?_ ?_; first | assumption | exact leftT_mem (by assumption)) | (with_reducible refine need ?_ ?_; first | trivial | omega | exact ⟨by assumption, by omega⟩ | (simp only [List.length_append, List.length_cons, List.length_nil, List.length_map, List.length_take, List.length_drop, List.length_replicate, List.length_set]; omega)) | (with_reducible refine fact ?_ ?_; first | trivial | exact ⟨rfl, rfl⟩ | kernel_rfl) | with_reducible refine choT (by assumption) ?_ | with_reducible refine choF (by assumption) ?_ | with_reducible refine choF' (by assumption) ?_ | (with_reducible refine altT ?_ ?_; first | omega | (simp only [List.length_append, List.length_cons, List.length_nil, List.length_map, List.length_take, List.length_drop, List.length_replicate, List.length_set]; omega)) | with_reducible refine altF ?_ | with_reducible refine all fun _ => ?_ | with_reducible refine both ?_ ?_ | (with_reducible refine choT ?_ ?_; omega) | (with_reducible refine choF ?_ ?_; omega) | with_reducible refine cho (fun _ => ?_) (fun _ => ?_))
          rw [hu] at gs
          refine again (q + 1, ⟨nodeD b d.val (path.getD q default).val, n1⟩) (by dsimp only; omega) ⟨by dsimp only; omega, ?_⟩ (Sub.drop_ (List.sublist_cons_self _ _) _)
          dsimp only
          rw [← g2, gs]
          rfl
        | false =>
          repeat' (first | with_reducible apply Stp.go | with_reducible refine imp fun _ => ?_ | (with_reducible refine hyp ?_ ?_; first | assumption | exact leftT_mem (by assumption)) | (with_reducible refine need ?_ ?_; first | trivial | omega | exact ⟨by assumption, by omega⟩ | (simp only [List.length_append, List.length_cons, List.length_nil, List.length_map, List.length_take, List.length_drop, List.length_replicate, List.length_set]; omega)) | (with_reducible refine fact ?_ ?_; first | trivial | exact ⟨rfl, rfl⟩ | kernel_rfl) | with_reducible refine choT (by assumption) ?_ | with_reducible refine choF (by assumption) ?_ | with_reducible refine choF' (by assumption) ?_ | (with_reducible refine altT ?_ ?_; first | omega | (simp only [List.length_append, List.length_cons, List.length_nil, List.length_map, List.length_take, List.length_drop, List.length_replicate, List.length_set]; omega)) | with_reducible refine altF ?_ | with_reducible refine all fun _ => ?_ | with_reducible refine both ?_ ?_ | (with_reducible refine choT ?_ ?_; omega) | (with_reducible refine choF ?_ ?_; omega) | with_reducible refine cho (fun _ => ?_) (fun _ => ?_))
          rw [hu, show fnU false = .val (.func (.func 103) #[] #[]) from rfl]
          repeat' (first | with_reducible apply Stp.go | with_reducible refine imp fun _ => ?_ | (with_reducible refine hyp ?_ ?_; first | assumption | exact leftT_mem (by assumption)) | (with_reducible refine need ?_ ?_; first | trivial | omega | exact ⟨by assumption, by omega⟩ | (simp only [List.length_append, List.length_cons, List.length_nil, List.length_map, List.length_take, List.length_drop, List.length_replicate, List.length_set]; omega)) | (with_reducible refine fact ?_ ?_; first | trivial | exact ⟨rfl, rfl⟩ | kernel_rfl) | with_reducible refine choT (by assumption) ?_ | with_reducible refine choF (by assumption) ?_ | with_reducible refine choF' (by assumption) ?_ | (with_reducible refine altT ?_ ?_; first | omega | (simp only [List.length_append, List.length_cons, List.length_nil, List.length_map, List.length_take, List.length_drop, List.length_replicate, List.length_set]; omega)) | with_reducible refine altF ?_ | with_reducible refine all fun _ => ?_ | with_reducible refine both ?_ ?_ | (with_reducible refine choT ?_ ?_; omega) | (with_reducible refine choF ?_ ?_; omega) | with_reducible refine cho (fun _ => ?_) (fun _ => ?_))
          rw [hu] at gs
          refine again (q + 1, ⟨nodeD b (path.getD q default).val d.val, n2⟩) (by dsimp only; omega) ⟨by dsimp only; omega, ?_⟩ (Sub.drop_ (List.sublist_cons_self _ _) _)
          dsimp only
          rw [← g2, gs]
          rfl
      · have g4 : q = path.length := by omega
        subst g4
        rw [List.drop_length] at g2
        have g5 : climb b (U.reverse.drop path.length) [] d = d := by
          cases U.reverse.drop path.length <;> rfl
        rw [g5] at g2
        rw [← g2]
        repeat' (first | with_reducible apply Stp.go | with_reducible refine imp fun _ => ?_ | (with_reducible refine hyp ?_ ?_; first | assumption | exact leftT_mem (by assumption)) | (with_reducible refine need ?_ ?_; first | trivial | omega | exact ⟨by assumption, by omega⟩ | (simp only [List.length_append, List.length_cons, List.length_nil, List.length_map, List.length_take, List.length_drop, List.length_replicate, List.length_set]; omega)) | (with_reducible refine fact ?_ ?_; first | trivial | exact ⟨rfl, rfl⟩ | kernel_rfl) | with_reducible refine choT (by assumption) ?_ | with_reducible refine choF (by assumption) ?_ | with_reducible refine choF' (by assumption) ?_ | (with_reducible refine altT ?_ ?_; first | omega | (simp only [List.length_append, List.length_cons, List.length_nil, List.length_map, List.length_take, List.length_drop, List.length_replicate, List.length_set]; omega)) | with_reducible refine altF ?_ | with_reducible refine all fun _ => ?_ | with_reducible refine both ?_ ?_ | (with_reducible refine choT ?_ ?_; omega) | (with_reducible refine choF ?_ ?_; omega) | with_reducible refine cho (fun _ => ?_) (fun _ => ?_))
        exact ⟨_, _, _, rfl, Sub.app_nil _, rfl, rfl⟩
    · repeat' (first | with_reducible apply Stp.go | with_reducible refine imp fun _ => ?_ | (with_reducible refine hyp ?_ ?_; first | assumption | exact leftT_mem (by assumption)) | (with_reducible refine need ?_ ?_; first | trivial | omega | exact ⟨by assumption, by omega⟩ | (simp only [List.length_append, List.length_cons, List.length_nil, List.length_map, List.length_take, List.length_drop, List.length_replicate, List.length_set]; omega)) | (with_reducible refine fact ?_ ?_; first | trivial | exact ⟨rfl, rfl⟩ | kernel_rfl) | with_reducible refine choT (by assumption) ?_ | with_reducible refine choF (by assumption) ?_ | with_reducible refine choF' (by assumption) ?_ | (with_reducible refine altT ?_ ?_; first | omega | (simp only [List.length_append, List.length_cons, List.length_nil, List.length_map, List.length_take, List.length_drop, List.length_replicate, List.length_set]; omega)) | with_reducible refine altF ?_ | with_reducible refine all fun _ => ?_ | with_reducible refine both ?_ ?_ | (with_reducible refine choT ?_ ?_; omega) | (with_reducible refine choF ?_ ?_; omega) | with_reducible refine cho (fun _ => ?_) (fun _ => ?_))
      refine ⟨_, _, _, rfl, Sub.app_nil _, ?_, rfl⟩
      rw [checkB, decide_eq_false hp, Bool.false_and]
  · have hh := halfN_lt (n := n) (by omega)
    by_cases h5 : j < halfN n
    · have e : upL n j = true :: upL (halfN n) j := by
        conv => lhs; unfold upL
        rw [dif_neg h4, if_pos h5]
      rw [e] at h3
      repeat' (first | with_reducible apply Stp.go | with_reducible refine imp fun _ => ?_ | (with_reducible refine hyp ?_ ?_; first | assumption | exact leftT_mem (by assumption)) | (with_reducible refine need ?_ ?_; first | trivial | omega | exact ⟨by assumption, by omega⟩ | (simp only [List.length_append, List.length_cons, List.length_nil, List.length_map, List.length_take, List.length_drop, List.length_replicate, List.length_set]; omega)) | (with_reducible refine fact ?_ ?_; first | trivial | exact ⟨rfl, rfl⟩ | kernel_rfl) | with_reducible refine choT (by assumption) ?_ | with_reducible refine choF (by assumption) ?_ | with_reducible refine choF' (by assumption) ?_ | (with_reducible refine altT ?_ ?_; first | omega | (simp only [List.length_append, List.length_cons, List.length_nil, List.length_map, List.length_take, List.length_drop, List.length_replicate, List.length_set]; omega)) | with_reducible refine altF ?_ | with_reducible refine all fun _ => ?_ | with_reducible refine both ?_ ?_ | (with_reducible refine choT ?_ ?_; omega) | (with_reducible refine choF ?_ ?_; omega) | with_reducible refine cho (fun _ => ?_) (fun _ => ?_))
      rename_i w
      exact again (halfN n, j, w, us ++ [true]) (by dsimp only; omega) ⟨by dsimp only; omega, by dsimp only; omega, by dsimp only; rw [List.append_assoc]; exact h3⟩ (Sub.refl _ _)
    · have e : upL n j = false :: upL (n - halfN n) (j - halfN n) := by
        conv => lhs; unfold upL
        rw [dif_neg h4, if_neg h5]
      rw [e] at h3
      repeat' (first | with_reducible apply Stp.go | with_reducible refine imp fun _ => ?_ | (with_reducible refine hyp ?_ ?_; first | assumption | exact leftT_mem (by assumption)) | (with_reducible refine need ?_ ?_; first | trivial | omega | exact ⟨by assumption, by omega⟩ | (simp only [List.length_append, List.length_cons, List.length_nil, List.length_map, List.length_take, List.length_drop, List.length_replicate, List.length_set]; omega)) | (with_reducible refine fact ?_ ?_; first | trivial | exact ⟨rfl, rfl⟩ | kernel_rfl) | with_reducible refine choT (by assumption) ?_ | with_reducible refine choF (by assumption) ?_ | with_reducible refine choF' (by assumption) ?_ | (with_reducible refine altT ?_ ?_; first | omega | (simp only [List.length_append, List.length_cons, List.length_nil, List.length_map, List.length_take, List.length_drop, List.length_replicate, List.length_set]; omega)) | with_reducible refine altF ?_ | with_reducible refine all fun _ => ?_ | with_reducible refine both ?_ ?_ | (with_reducible refine choT ?_ ?_; omega) | (with_reducible refine choF ?_ ?_; omega) | with_reducible refine cho (fun _ => ?_) (fun _ => ?_))
      rename_i w
      exact again (n - halfN n, j - halfN n, w, us ++ [false]) (by dsimp only; omega) ⟨by dsimp only; omega, by dsimp only; omega, by dsimp only; rw [List.append_assoc]; exact h3⟩ (Sub.refl _ _)
/-- Likewise, of any place and count. -/
def checkZ (b : Int) (root : D32) (cnt i : Int) (leaf : List UInt8) (path : List D32) : Bool := decide (0 ≤ i ∧ i < cnt) && checkB b root cnt.toNat i.toNat leaf path
theorem checkZ_in {b : Int} {root : D32} {cnt i : Int} {leaf : List UInt8} {path : List D32} (h : checkZ b root cnt i leaf path = true) : 0 ≤ i ∧ i < cnt := by
  unfold checkZ at h
  rw [Bool.and_eq_true, decide_eq_true_eq] at h
  exact h.1
theorem checkZ_nat (b : Int) (root : D32) {cnt i : Nat} (leaf : List UInt8) (path : List D32) (h : i < cnt) : checkZ b root cnt i leaf path = checkB b root cnt i leaf path := by
  rw [checkZ, decide_eq_true (show (0 : Int) ≤ i ∧ (i : Int) < cnt by omega), Bool.true_and, Int.toNat_natCast, Int.toNat_natCast]
theorem Check_ok (b : Int) (root : List UInt8) [hr : Len32 root] (cnt i : Int) (leaf : List UInt8) (m m' : SM) (path : List D32) (hc : cnt ≤ 9223372036854775807) (hl : leaf.length ≤ 100000000000000) :
    aPure Go.Proofs.Try.prog 64 [trA b, dgA root, I .i64 cnt, I .i64 i, .lst 1 (leaf.map byt) m, .lst 32 (path.map dgF) m'] (B (checkZ b ⟨root, hr.len⟩ cnt i leaf path)) := by
  by_cases h : 0 ≤ i ∧ i < cnt
  · obtain ⟨n, rfl⟩ := Int.eq_ofNat_of_zero_le (show 0 ≤ cnt by omega)
    obtain ⟨j, rfl⟩ := Int.eq_ofNat_of_zero_le h.1
    rw [checkZ_nat _ _ _ _ (by omega)]
    exact Check_nat b root n j leaf m m' path (by omega) (by omega) hl
  · rw [checkZ, decide_eq_false h, Bool.false_and]
    refine ACalls.fin (tree_Tree_Check.go ?_)
    unfold tree_Tree_Check.sh
    by_cases h0 : i < 0
    · repeat' (first | with_reducible apply Stp.go | with_reducible refine imp fun _ => ?_ | (with_reducible refine hyp ?_ ?_; first | assumption | exact leftT_mem (by assumption)) | (with_reducible refine need ?_ ?_; first | trivial | omega | exact ⟨by assumption, by omega⟩ | (simp only [List.length_append, List.length_cons, List.length_nil, List.length_map, List.length_take, List.length_drop, List.length_replicate, List.length_set]; omega)) | (with_reducible refine fact ?_ ?_; first | trivial | exact ⟨rfl, rfl⟩ | kernel_rfl) | with_reducible refine choT (by assumption) ?_ | with_reducible refine choF (by assumption) ?_ | with_reducible refine choF' (by assumption) ?_ | (with_reducible refine altT ?_ ?_; first | omega | (simp only [List.length_append, List.length_cons, List.length_nil, List.length_map, List.length_take, List.length_drop, List.length_replicate, List.length_set]; omega)) | with_reducible refine altF ?_ | with_reducible refine all fun _ => ?_ | with_reducible refine both ?_ ?_ | (with_reducible refine choT ?_ ?_; omega) | (with_reducible refine choF ?_ ?_; omega) | with_reducible refine cho (fun _ => ?_) (fun _ => ?_))
      exact ⟨_, _, _, rfl, Sub.app_nil _, rfl, rfl⟩
    · have h1 : cnt ≤ i := by omega
      repeat' (first | with_reducible apply Stp.go | with_reducible refine imp fun _ => ?_ | (with_reducible refine hyp ?_ ?_; first | assumption | exact leftT_mem (by assumption)) | (with_reducible refine need ?_ ?_; first | trivial | omega | exact ⟨by assumption, by omega⟩ | (simp only [List.length_append, List.length_cons, List.length_nil, List.length_map, List.length_take, List.length_drop, List.length_replicate, List.length_set]; omega)) | (with_reducible refine fact ?_ ?_; first | trivial | exact ⟨rfl, rfl⟩ | kernel_rfl) | with_reducible refine choT (by assumption) ?_ | with_reducible refine choF (by assumption) ?_ | with_reducible refine choF' (by assumption) ?_ | (with_reducible refine altT ?_ ?_; first | omega | (simp only [List.length_append, List.length_cons, List.length_nil, List.length_map, List.length_take, List.length_drop, List.length_replicate, List.length_set]; omega)) | with_reducible refine altF ?_ | with_reducible refine all fun _ => ?_ | with_reducible refine both ?_ ?_ | (with_reducible refine choT ?_ ?_; omega) | (with_reducible refine choF ?_ ?_; omega) | with_reducible refine cho (fun _ => ?_) (fun _ => ?_))
      exact ⟨_, _, _, rfl, Sub.app_nil _, rfl, rfl⟩
instance {a a2 : AV} {root leaf : List UInt8} {m m' : SM} {b : Int} {cnt i : Int} {path : List D32} [hr : Len32 root] [h : IsL a byt 1 leaf m] [h2 : IsL a2 dgF 32 path m'] : PC Go.Proofs.Try.prog 64 [trA b, dgA root, I .i64 cnt, I .i64 i, a, a2] (cnt ≤ 9223372036854775807 ∧ leaf.length ≤ 100000000000000) (B (checkZ b ⟨root, hr.len⟩ cnt i leaf path)) := ⟨fun hl => ⟨[trA b, dgA root, I .i64 cnt, I .i64 i, .lst 1 (leaf.map byt) m, .lst 32 (path.map dgF) m'], ⟨SubV.refl _, SubV.refl _, SubV.refl _, SubV.refl _, h.sub, h2.sub, trivial⟩, Check_ok b root cnt i leaf m m' path hl.1 hl.2⟩⟩
/-- The path of a leaf leads to the root. -/
theorem climb_snoc (b : Int) : ∀ (us : List Bool) (xs : List D32) (u : Bool) (x d : D32), us.length = xs.length → climb b (us ++ [u]) (xs ++ [x]) d = stepD b u (climb b us xs d) x
  | [], [], u, x, d, _ => rfl
  | v :: us, y :: xs, u, x, d, h => climb_snoc b us xs u x (stepD b v d y) (by simpa using h)
theorem path_root (b : Int) : ∀ (n : Nat) (L : List (List UInt8)) (i : Nat), L.length = n → i < n → (pathD b L i).length = (upL n i).length ∧ (climb b (upL n i).reverse (pathD b L i) ⟨leafD b (L.getD i default), Len32.len⟩).val = rootD b L := by
  intro n
  induction n using Nat.strongRecOn with
  | _ n ih =>
    intro L i hn hi
    by_cases h1 : n ≤ 1
    · have e1 : pathD b L i = [] := by unfold pathD; rw [dif_pos (by omega)]
      have e2 : upL n i = [] := by unfold upL; rw [dif_pos h1]
      have e3 : rootD b L = leafD b (L.getD 0 default) := by unfold rootD; rw [dif_neg (by omega), dif_pos (by omega)]
      have e4 : i = 0 := by omega
      subst e4
      rw [e1, e2, e3]
      exact ⟨rfl, rfl⟩
    · have hh := halfN_lt (n := n) (by omega)
      have l1 : (L.take (halfN n)).length = halfN n := by rw [List.length_take]; omega
      have l2 : (L.drop (halfN n)).length = n - halfN n := by rw [List.length_drop, hn]
      have e3 : rootD b L = nodeD b (rootD b (L.take (halfN n))) (rootD b (L.drop (halfN n))) := by
        conv => lhs; unfold rootD
        rw [dif_neg (by omega), dif_neg (by omega), hn]
      by_cases h2 : i < halfN n
      · have e1 : pathD b L i = pathD b (L.take (halfN n)) i ++ [rootF b (L.drop (halfN n))] := by
          conv => lhs; unfold pathD
          rw [dif_neg (by omega), hn, if_pos h2]
        have e2 : upL n i = true :: upL (halfN n) i := by
          conv => lhs; unfold upL
          rw [dif_neg h1, if_pos h2]
        obtain ⟨i1, i2⟩ := ih (halfN n) hh.2 (L.take (halfN n)) i l1 h2
        have e5 : (L.take (halfN n)).getD i default = L.getD i default := by
          rw [List.getD_eq_getElem?_getD, List.getD_eq_getElem?_getD, List.getElem?_take, if_pos h2]
        rw [e5] at i2
        rw [e1, e2, e3]
        refine ⟨by simp [i1], ?_⟩
        rw [List.reverse_cons, climb_snoc b _ _ _ _ _ (by rw [List.length_reverse]; exact i1.symm)]
        show nodeD b (climb b _ _ _).val _ = _
        rw [i2]
      · have e1 : pathD b L i = pathD b (L.drop (halfN n)) (i - halfN n) ++ [rootF b (L.take (halfN n))] := by
          conv => lhs; unfold pathD
          rw [dif_neg (by omega), hn, if_neg h2]
        have e2 : upL n i = false :: upL (n - halfN n) (i - halfN n) := by
          conv => lhs; unfold upL
          rw [dif_neg h1, if_neg h2]
        obtain ⟨i1, i2⟩ := ih (n - halfN n) (by omega) (L.drop (halfN n)) (i - halfN n) l2 (by omega)
        have e5 : (L.drop (halfN n)).getD (i - halfN n) default = L.getD i default := by
          rw [List.getD_eq_getElem?_getD, List.getD_eq_getElem?_getD, List.getElem?_drop, show halfN n + (i - halfN n) = i by omega]
        rw [e5] at i2
        rw [e1, e2, e3]
        refine ⟨by simp [i1], ?_⟩
        rw [List.reverse_cons, climb_snoc b _ _ _ _ _ (by rw [List.length_reverse]; exact i1.symm)]
        show nodeD b _ (climb b _ _ _).val = _
        rw [i2]
end Go.Ab

/- What a table has of some keys, proved. -/
set_option linter.unusedVariables false
set_option linter.unusedSimpArgs false
namespace Go.Ab
def seek_ProveSpan.mark : Mark := ⟨fun t => Nat.beq t 17 || Nat.beq t 35 || Nat.beq t 41 || Nat.beq t 48 || Nat.beq t 58 || Nat.beq t 70, fun t => false, fun t => Nat.beq t 4, fun t => Nat.beq t 26 || Nat.beq t 33 || Nat.beq t 72, fun t => false⟩
def seek_ProveSpan.ann : Ann := ⟨fun n => [], fun n => bif Nat.beq n 9 then some [1, 4, 8, 10, 12] else none, fun n => none⟩
end Go.Ab

/- Leaves held against a root. -/
set_option linter.unusedVariables false
set_option linter.unusedSimpArgs false
namespace Go.Ab
/-- The next of a path; none: it is bad. -/
def popD (s : List D32 × Bool) : D32 × (List D32 × Bool) := match s with
  | ([], _) => (⟨zeroD, Len32.len⟩, ([], true))
  | (x :: xs, c) => (x, (xs, c))
/-- The root of so many leaves, of which a part is there; what is left of the path. -/
def rootR (b : Int) (part : List (List UInt8)) (cnt : Nat) (p : Int) (s : List D32 × Bool) : D32 × (List D32 × Bool) :=
  if p + part.length ≤ 0 ∨ (cnt : Int) ≤ p then popD s
  else if h : cnt ≤ 1 then (⟨leafD b (part.getD (-p).toNat default), Len32.len⟩, s)
  else
    let x := rootR b part (halfN cnt) p s
    let y := rootR b part (cnt - halfN cnt) (p - halfN cnt) x.2
    (⟨nodeD b x.1.val y.1.val, Len32.len⟩, y.2)
termination_by cnt
decreasing_by
  · have := halfN_lt (n := cnt) (by omega); omega
  · have := halfN_lt (n := cnt) (by omega); omega
section rootR
variable {b : Int} {part : List (List UInt8)} {cnt : Nat} {p : Int} {s : List D32 × Bool}
end rootR
def tree_opening_root.mark : Mark := ⟨fun t => false, fun t => false, fun t => false, fun t => Nat.beq t 39 || Nat.beq t 63, fun t => false⟩
def tree_opening_root.ann : Ann := ⟨fun n => [], fun n => none, fun n => bif Nat.beq n 12 then some [6] else none⟩
def tree_Tree_CheckRange.mark : Mark := ⟨fun t => false, fun t => false, fun t => Nat.beq t 6 || Nat.beq t 7, fun t => Nat.beq t 36 || Nat.beq t 60, fun t => false⟩
def tree_Tree_CheckRange.ann : Ann := ⟨fun n => [], fun n => none, fun n => none⟩
end Go.Ab

/- The document's paths and ranges. -/
set_option linter.unusedVariables false
set_option linter.unusedSimpArgs false
namespace Go.Ab
def ref05_Path.mark : Mark := ⟨fun t => Nat.beq t 29 || Nat.beq t 47 || Nat.beq t 66, fun t => Nat.beq t 22, fun t => false, fun t => false, fun t => false⟩
def ref05_Path.ann : Ann := ⟨fun n => [], fun n => none, fun n => none⟩
def ref05_Above.mark : Mark := ⟨fun t => Nat.beq t 22 || Nat.beq t 37 || Nat.beq t 51 || Nat.beq t 57 || Nat.beq t 73 || Nat.beq t 79, fun t => false, fun t => false, fun t => Nat.beq t 35, fun t => false⟩
def ref05_Above.ann : Ann := ⟨fun n => [], fun n => none, fun n => none⟩
def ref05_Check.mark : Mark := ⟨fun t => Nat.beq t 28, fun t => false, fun t => Nat.beq t 7, fun t => Nat.beq t 34, fun t => false⟩
def ref05_Check.ann : Ann := ⟨fun n => [], fun n => none, fun n => none⟩
def ref05_beside.mark : Mark := ⟨fun t => Nat.beq t 23 || Nat.beq t 31, fun t => Nat.beq t 25, fun t => false, fun t => false, fun t => false⟩
def ref05_beside.ann : Ann := ⟨fun n => [], fun n => none, fun n => none⟩
def ref05_Range.mark : Mark := ⟨fun t => false, fun t => false, fun t => false, fun t => false, fun t => false⟩
def ref05_Range.ann : Ann := ⟨fun n => [], fun n => none, fun n => none⟩
/-- The root that comes out, with a leaf and a path, from the top down. -/
def aboveD (b : Int) (cnt i : Nat) (leaf : List UInt8) (path : List D32) : D32 × Bool :=
  if h : cnt ≤ 1 then (⟨leafD b leaf, Len32.len⟩, decide (path.length = 0))
  else if path.length = 0 then (⟨zeroD, Len32.len⟩, false)
  else if i < halfN cnt then
    let r := aboveD b (halfN cnt) i leaf (path.take (path.length - 1))
    (⟨nodeD b r.1.val (path.getD (path.length - 1) default).val, Len32.len⟩, r.2)
  else
    let r := aboveD b (cnt - halfN cnt) (i - halfN cnt) leaf (path.take (path.length - 1))
    (⟨nodeD b (path.getD (path.length - 1) default).val r.1.val, Len32.len⟩, r.2)
termination_by cnt
decreasing_by
  · have := halfN_lt (n := cnt) (by omega); omega
  · have := halfN_lt (n := cnt) (by omega); omega
theorem init_last {α : Type} [Inhabited α] {l : List α} (h : ¬ l.length = 0) : l = l.take (l.length - 1) ++ [l.getD (l.length - 1) default] := by
  have h1 : l.length - 1 < l.length := by omega
  conv => lhs; rw [← List.take_append_drop (l.length - 1) l, List.drop_eq_getElem_cons h1]
  rw [List.getD_eq_getElem?_getD, List.getElem?_eq_getElem h1, show l.length - 1 + 1 = l.length by omega, List.drop_length]
  rfl
theorem above_check (b : Int) (leaf : List UInt8) : ∀ (n cnt i : Nat) (path : List D32), cnt = n → (aboveD b cnt i leaf path).2 = decide (path.length = (upL cnt i).length) ∧ (path.length = (upL cnt i).length → (aboveD b cnt i leaf path).1 = climb b (upL cnt i).reverse path ⟨leafD b leaf, Len32.len⟩) := by
  intro n
  induction n using Nat.strongRecOn with
  | _ n ih =>
    intro cnt i path hn
    by_cases h1 : cnt ≤ 1
    · have e : upL cnt i = [] := by unfold upL; rw [dif_pos h1]
      have e2 : aboveD b cnt i leaf path = (⟨leafD b leaf, Len32.len⟩, decide (path.length = 0)) := by unfold aboveD; rw [dif_pos h1]
      rw [e, e2]
      refine ⟨rfl, fun h => ?_⟩
      have : path = [] := List.length_eq_zero_iff.1 h
      subst this; rfl
    · have hh := halfN_lt (n := cnt) (by omega)
      by_cases h0 : path.length = 0
      · have e2 : aboveD b cnt i leaf path = (⟨zeroD, Len32.len⟩, false) := by unfold aboveD; rw [dif_neg h1, if_pos h0]
        have hne : ¬ path.length = (upL cnt i).length := by
          unfold upL
          rw [dif_neg h1, h0]
          split <;> simp
        rw [e2, decide_eq_false hne]
        exact ⟨rfl, fun h => absurd h hne⟩
      · have hil := init_last h0
        have htl : (path.take (path.length - 1)).length = path.length - 1 := by rw [List.length_take]; omega
        by_cases h2 : i < halfN cnt
        · have e : upL cnt i = true :: upL (halfN cnt) i := by
            conv => lhs; unfold upL
            rw [dif_neg h1, if_pos h2]
          have e2 : aboveD b cnt i leaf path = (⟨nodeD b (aboveD b (halfN cnt) i leaf (path.take (path.length - 1))).1.val (path.getD (path.length - 1) default).val, Len32.len⟩, (aboveD b (halfN cnt) i leaf (path.take (path.length - 1))).2) := by
            conv => lhs; unfold aboveD
            rw [dif_neg h1, if_neg h0, if_pos h2]
          obtain ⟨i1, i2⟩ := ih (halfN cnt) (by omega) (halfN cnt) i (path.take (path.length - 1)) rfl
          rw [htl] at i1 i2
          rw [e, e2]
          refine ⟨by rw [i1]; simp only [List.length_cons]; congr 1; apply propext; omega, fun h => ?_⟩
          simp only [List.length_cons] at h
          rw [i2 (by omega), List.reverse_cons]
          conv => rhs; rw [hil]
          rw [climb_snoc b _ _ _ _ _ (by rw [List.length_reverse, htl]; omega)]
          rfl
        · have e : upL cnt i = false :: upL (cnt - halfN cnt) (i - halfN cnt) := by
            conv => lhs; unfold upL
            rw [dif_neg h1, if_neg h2]
          have e2 : aboveD b cnt i leaf path = (⟨nodeD b (path.getD (path.length - 1) default).val (aboveD b (cnt - halfN cnt) (i - halfN cnt) leaf (path.take (path.length - 1))).1.val, Len32.len⟩, (aboveD b (cnt - halfN cnt) (i - halfN cnt) leaf (path.take (path.length - 1))).2) := by
            conv => lhs; unfold aboveD
            rw [dif_neg h1, if_neg h0, if_neg h2]
          obtain ⟨i1, i2⟩ := ih (cnt - halfN cnt) (by omega) (cnt - halfN cnt) (i - halfN cnt) (path.take (path.length - 1)) rfl
          rw [htl] at i1 i2
          rw [e, e2]
          refine ⟨by rw [i1]; simp only [List.length_cons]; congr 1; apply propext; omega, fun h => ?_⟩
          simp only [List.length_cons] at h
          rw [i2 (by omega), List.reverse_cons]
          conv => rhs; rw [hil]
          rw [climb_snoc b _ _ _ _ _ (by rw [List.length_reverse, htl]; omega)]
          rfl
theorem checkB_above (b : Int) (root : D32) (cnt i : Nat) (leaf : List UInt8) (path : List D32) : checkB b root cnt i leaf path = ((aboveD b cnt i leaf path).2 && decide ((aboveD b cnt i leaf path).1.val = root.val)) := by
  obtain ⟨h1, h2⟩ := above_check b leaf cnt cnt i path rfl
  rw [checkB, h1]
  by_cases h : path.length = (upL cnt i).length
  · rw [h2 h]
  · rw [decide_eq_false h, Bool.false_and, Bool.false_and]
end Go.Ab

/- The document's leaves held against a root. -/
set_option linter.unusedVariables false
set_option linter.unusedSimpArgs false
namespace Go.Ab
section over
variable {b : Int} {part : List (List UInt8)} {cnt : Nat} {p : Int} {path : List D32}
end over
def ref05_Over.mark : Mark := ⟨fun t => Nat.beq t 45 || Nat.beq t 47 || Nat.beq t 54 || Nat.beq t 73 || Nat.beq t 80, fun t => false, fun t => false, fun t => Nat.beq t 36 || Nat.beq t 44, fun t => false⟩
def ref05_Over.ann : Ann := ⟨fun n => [], fun n => none, fun n => none⟩
def ref05_CheckRange.mark : Mark := ⟨fun t => Nat.beq t 43, fun t => false, fun t => Nat.beq t 7, fun t => Nat.beq t 56, fun t => false⟩
def ref05_CheckRange.ann : Ann := ⟨fun n => [], fun n => none, fun n => none⟩
end Go.Ab

/- ref11.Leaves, ref11.Describe. -/
set_option linter.unusedVariables false
set_option linter.unusedSimpArgs false
namespace Go.Ab
def ref11_Leaves.mark : Mark := ⟨fun t => Nat.beq t 16, fun t => false, fun t => false, fun t => Nat.beq t 15, fun t => false⟩
def ref11_Leaves.ann : Ann := ⟨fun n => bif Nat.beq n 3 then [0, 3, 4] else [], fun n => none, fun n => none⟩
end Go.Ab

/- The reference's fold. -/
set_option linter.unusedVariables false
set_option linter.unusedSimpArgs false
namespace Go.Ab
theorem foldE_take_succ {l : List En} {i : Nat} (h : i < l.length) : foldE (l.take (i + 1)) = putE (l.getD i default) (foldE (l.take i)) := by rw [take_succ_d h, foldE_snoc]
end Go.Ab
