/- The texts that this claim needs, part 7: a logic over abstract values, its steps, what the functions do. No condition of its own. -/
import Derived.Laws.BitsAllLaws
import Derived.Test.YtobhbepiaibceaaSeekSpansK6
/- The document's sum of a text: its first bits. -/
set_option linter.unusedVariables false
set_option linter.unusedSimpArgs false
namespace Go.Ab
def ref02_Kept.mark : Mark := ⟨fun t => Nat.beq t 8, fun t => false, fun t => false, fun t => false, fun t => false⟩
def ref02_Kept.ann : Ann := ⟨fun n => bif Nat.beq n 3 then [1, 4, 5, 6] else [], fun n => none, fun n => none⟩
end Go.Ab

/- Leaves, nodes and roots of a tree. -/
set_option linter.unusedVariables false
set_option linter.unusedSimpArgs false
namespace Go.Ab
instance (priority := 75) srcDig {b : Nat} {σ rest : Store} {put : Ent → Store} {t : TypeId} {l : List UInt8} {m : Nat} [hl : Len32 l] [hv : VarAt b σ t (l.map byt) put rest] : SrcI 1 σ (.val (.slice (some ⟨b, 0, none⟩) 32 m)) UInt8 byt l := by
  have := srcV (b := b) (σ := σ) (t := t) (l := l) (f := byt) (m := m)
  rwa [hl.len] at this
/-- A tree's value. -/
abbrev trA (bits : Int) : AV := .agg [I .i64 bits]
/-- A digest's value. -/
abbrev dgA (d : List UInt8) : AV := .agg (d.map byt)
def leafD (bits : Int) (l : List UInt8) : List UInt8 := kept ([0] ++ l) bits
def nodeD (bits : Int) (l r : List UInt8) : List UInt8 := kept ([] ++ [1] ++ l ++ r) bits
instance (b : Int) (l : List UInt8) : Len32 (leafD b l) := ⟨kept_length _ _⟩
instance (b : Int) (l r : List UInt8) : Len32 (nodeD b l r) := ⟨kept_length _ _⟩
def tree_Tree_Leaf.mark : Mark := ⟨fun t => Nat.beq t 10, fun t => Nat.beq t 5, fun t => Nat.beq t 2, fun t => Nat.beq t 9, fun t => false⟩
def tree_Tree_Leaf.ann : Ann := ⟨fun n => [], fun n => none, fun n => none⟩
/-- '(marlstone/tree.Tree).Leaf' -/
def tree_Tree_Leaf.sh (a0 a1 : AV) (σ : Store) (Q : AEnd → Store → Prop) : Prop :=
  Do (aFreeze ((a0 : AV)).cells) fun t2 =>
  aNewVar 46 [.val (.int .u8 0), .val (.int .u8 0), .val (.int .u8 0), .val (.int .u8 0), .val (.int .u8 0), .val (.int .u8 0), .val (.int .u8 0), .val (.int .u8 0), .val (.int .u8 0), .val (.int .u8 0), .val (.int .u8 0), .val (.int .u8 0), .val (.int .u8 0), .val (.int .u8 0), .val (.int .u8 0), .val (.int .u8 0), .val (.int .u8 0), .val (.int .u8 0), .val (.int .u8 0), .val (.int .u8 0), .val (.int .u8 0), .val (.int .u8 0), .val (.int .u8 0), .val (.int .u8 0), .val (.int .u8 0), .val (.int .u8 0), .val (.int .u8 0), .val (.int .u8 0), .val (.int .u8 0), .val (.int .u8 0), .val (.int .u8 0), .val (.int .u8 0)] σ fun t4 σ =>
  Do (aFieldAddr 0 1 t2) fun t8 =>
  Do (loadF false 1 t8) fun t9 =>
  aRowL 5 (mkE [.val (.int .u8 0)]) 1 1 [(0, (W8 0))] σ fun t5 σ_1 =>
  aAppend 5 1 1 t5 a1 σ_1 (subF fun t7 σ_2 =>
  Do (aPureC Go.Proofs.Try.prog 77 [t7, t9]) fun t10 =>
  storeA 32 t4 t10 σ_2 fun u σ_3 =>
  Do (loadA true 32 t4 σ_3) fun r4 => Q (.ret r4) σ_3)
theorem tree_Tree_Leaf.eq (a0 a1 : AV) (σ : Store) (Q : AEnd → Store → Prop) : vc (semOf Go.Proofs.Try.prog tree_Tree_Leaf.mark) Go.Proofs.Try.f66.ntmps tree_Tree_Leaf.ann (bodyOf Go.Proofs.Try.f66) (endK [.cell 4 true 32] Q) (argFr [a0, a1]) σ = tree_Tree_Leaf.sh a0 a1 σ Q := by kernel_rfl
theorem tree_Tree_Leaf.go {a0 a1 : AV} {σ : Store} {Q : AEnd → Store → Prop} (h : tree_Tree_Leaf.sh a0 a1 σ Q) : ACalls Go.Proofs.Try.prog 66 [a0, a1] σ Q :=
  acalls_of_eq [.cell 4 true 32] Go.Proofs.Try.func66 (by kernel_rfl) (by kernel_rfl) (by kernel_rfl) (by kernel_rfl) (tree_Tree_Leaf.eq a0 a1 σ Q) h
def tree_Tree_Node.mark : Mark := ⟨fun t => Nat.beq t 20, fun t => false, fun t => Nat.beq t 3, fun t => Nat.beq t 19, fun t => false⟩
def tree_Tree_Node.ann : Ann := ⟨fun n => [], fun n => none, fun n => none⟩
/-- '(marlstone/tree.Tree).Node' -/
def tree_Tree_Node.sh (a0 a1 a2 : AV) (σ : Store) (Q : AEnd → Store → Prop) : Prop :=
  Do (aFreeze ((a0 : AV)).cells) fun t3 =>
  aNewVar 46 (a1 : AV).cells σ fun t4 σ =>
  aNewVar 46 (a2 : AV).cells σ fun t5 σ_1 =>
  aNewVar 46 [.val (.int .u8 0), .val (.int .u8 0), .val (.int .u8 0), .val (.int .u8 0), .val (.int .u8 0), .val (.int .u8 0), .val (.int .u8 0), .val (.int .u8 0), .val (.int .u8 0), .val (.int .u8 0), .val (.int .u8 0), .val (.int .u8 0), .val (.int .u8 0), .val (.int .u8 0), .val (.int .u8 0), .val (.int .u8 0), .val (.int .u8 0), .val (.int .u8 0), .val (.int .u8 0), .val (.int .u8 0), .val (.int .u8 0), .val (.int .u8 0), .val (.int .u8 0), .val (.int .u8 0), .val (.int .u8 0), .val (.int .u8 0), .val (.int .u8 0), .val (.int .u8 0), .val (.int .u8 0), .val (.int .u8 0), .val (.int .u8 0), .val (.int .u8 0)] σ_1 fun t6 σ_2 =>
  aMake 5 [(.int .u8 0)] 1 1 (.val (.int .i64 0)) (.val (.int .i64 65)) σ_2 (subK fun t8 σ_3 =>
  Do (aSlLit (mkE [.val (.int .u8 0)]) 1 1 [(0, (W8 1))]) fun t10 =>
  aAppend 5 1 1 t8 t10 σ_3 (subK fun t11 σ_4 =>
  Do (aSlice (.array 32) 1 t4 none none none) fun t13 =>
  aAppend 5 1 1 t11 t13 σ_4 (subK fun t14 σ_5 =>
  Do (aSlice (.array 32) 1 t5 none none none) fun t16 =>
  Do (aFieldAddr 0 1 t3) fun t18 =>
  Do (loadF false 1 t18) fun t19 =>
  aAppend 5 1 1 t14 t16 σ_5 (subF fun t17 σ_6 =>
  Do (aPureC Go.Proofs.Try.prog 77 [t17, t19]) fun t20 =>
  storeA 32 t6 t20 σ_6 fun u σ_7 =>
  Do (loadA true 32 t6 σ_7) fun r6 => Q (.ret r6) σ_7))))
theorem tree_Tree_Node.eq (a0 a1 a2 : AV) (σ : Store) (Q : AEnd → Store → Prop) : vc (semOf Go.Proofs.Try.prog tree_Tree_Node.mark) Go.Proofs.Try.f71.ntmps tree_Tree_Node.ann (bodyOf Go.Proofs.Try.f71) (endK [.cell 6 true 32] Q) (argFr [a0, a1, a2]) σ = tree_Tree_Node.sh a0 a1 a2 σ Q := by kernel_rfl
theorem tree_Tree_Node.go {a0 a1 a2 : AV} {σ : Store} {Q : AEnd → Store → Prop} (h : tree_Tree_Node.sh a0 a1 a2 σ Q) : ACalls Go.Proofs.Try.prog 71 [a0, a1, a2] σ Q :=
  acalls_of_eq [.cell 6 true 32] Go.Proofs.Try.func71 (by kernel_rfl) (by kernel_rfl) (by kernel_rfl) (by kernel_rfl) (tree_Tree_Node.eq a0 a1 a2 σ Q) h
def tree_half.mark : Mark := ⟨fun t => false, fun t => false, fun t => false, fun t => false, fun t => false⟩
def tree_half.ann : Ann := ⟨fun n => bif Nat.beq n 2 then [0, 3] else [], fun n => none, fun n => none⟩
/-- 'marlstone/tree.half' -/
def tree_half.sh (a0 : AV) (σ : Store) (Q : AEnd → Store → Prop) : Prop :=
  aLoop (fun go vs σ =>
    At vs 0 fun s0 => At vs 1 fun s3 => Do (aBin Go.Proofs.Try.prog .sub 3 s0 s3) fun t7 =>
    Do (aBin Go.Proofs.Try.prog .lss 3 s3 t7) fun t8 =>
    aCond t8
      (Do (aBin Go.Proofs.Try.prog .mul 3 s3 (.val (.int .i64 2))) fun t10 =>
    go [s0, t10] σ)
      (Q (.ret s3) σ))
    [a0, (.val (.int .i64 1))] σ
theorem tree_half.eq (a0 : AV) (σ : Store) (Q : AEnd → Store → Prop) : vc (semOf Go.Proofs.Try.prog tree_half.mark) Go.Proofs.Try.f100.ntmps tree_half.ann (bodyOf Go.Proofs.Try.f100) (endK [.tmp 2] Q) (argFr [a0]) σ = tree_half.sh a0 σ Q := by kernel_rfl
theorem tree_half.go {a0 : AV} {σ : Store} {Q : AEnd → Store → Prop} (h : tree_half.sh a0 σ Q) : ACalls Go.Proofs.Try.prog 100 [a0] σ Q :=
  acalls_of_eq [.tmp 2] Go.Proofs.Try.func100 (by kernel_rfl) (by kernel_rfl) (by kernel_rfl) (by kernel_rfl) (tree_half.eq a0 σ Q) h
def tree_Tree_Root.mark : Mark := ⟨fun t => Nat.beq t 12, fun t => false, fun t => Nat.beq t 2, fun t => Nat.beq t 11 || Nat.beq t 15 || Nat.beq t 18 || Nat.beq t 23 || Nat.beq t 24 || Nat.beq t 29, fun t => false⟩
def tree_Tree_Root.ann : Ann := ⟨fun n => [], fun n => none, fun n => none⟩
/-- '(marlstone/tree.Tree).Root' -/
def tree_Tree_Root.sh (a0 a1 : AV) (σ : Store) (Q : AEnd → Store → Prop) : Prop :=
  Do (aFreeze ((a0 : AV)).cells) fun t2 =>
  aNewVar 46 [.val (.int .u8 0), .val (.int .u8 0), .val (.int .u8 0), .val (.int .u8 0), .val (.int .u8 0), .val (.int .u8 0), .val (.int .u8 0), .val (.int .u8 0), .val (.int .u8 0), .val (.int .u8 0), .val (.int .u8 0), .val (.int .u8 0), .val (.int .u8 0), .val (.int .u8 0), .val (.int .u8 0), .val (.int .u8 0), .val (.int .u8 0), .val (.int .u8 0), .val (.int .u8 0), .val (.int .u8 0), .val (.int .u8 0), .val (.int .u8 0), .val (.int .u8 0), .val (.int .u8 0), .val (.int .u8 0), .val (.int .u8 0), .val (.int .u8 0), .val (.int .u8 0), .val (.int .u8 0), .val (.int .u8 0), .val (.int .u8 0), .val (.int .u8 0)] σ fun t4 σ =>
  Do (aBuiltin Go.Proofs.Try.prog .len #[37] [a1]) fun t7 =>
  Do (aBin Go.Proofs.Try.prog .eql 3 t7 (.val (.int .i64 0))) fun t9 =>
  aCond t9
    (Do (aFieldAddr 0 1 t2) fun t10 =>
    Do (loadF false 1 t10) fun t11 =>
    Do (aPureC Go.Proofs.Try.prog 77 [(.val (.slice none 0 0)), t11]) fun t12 =>
    storeA 32 t4 t12 σ fun u σ_1 =>
    Do (loadA true 32 t4 σ_1) fun r4 => Q (.ret r4) σ_1)
    (Do (aBin Go.Proofs.Try.prog .eql 3 t7 (.val (.int .i64 1))) fun t14 =>
    aCond t14
      (Do (loadF true 1 t2) fun t15 =>
      Do (aIndexAddr .slice 1 a1 (.val (.int .i64 0))) fun t17 =>
      Do (loadF false 1 t17) fun t18 =>
      aCall Go.Proofs.Try.prog 66 [t15, t18] σ (fun t19 σ_2 =>
      storeA 32 t4 t19 σ_2 fun u_1 σ_3 =>
      Do (loadA true 32 t4 σ_3) fun r4_1 => Q (.ret r4_1) σ_3) (fun e σ_4 => Q (.pan e) σ_4))
      (Do (aBuiltin Go.Proofs.Try.prog .len #[37] [a1]) fun t21 =>
  aCall Go.Proofs.Try.prog 100 [t21] σ (fun t22 σ_5 =>
  Do (loadF true 1 t2) fun t23 =>
  Do (loadF true 1 t2) fun t24 =>
  Do (aSlice .slice 1 a1 none (some t22) none) fun t27 =>
  Do (loadF true 1 t2) fun t29 =>
  Do (aSlice .slice 1 a1 (some t22) none none) fun t32 =>
  aCall Go.Proofs.Try.prog 62 [t24, t27] σ_5 (fun t28 σ_6 =>
  aCall Go.Proofs.Try.prog 62 [t29, t32] σ_6 (fun t33 σ_7 =>
  aCall Go.Proofs.Try.prog 71 [t23, t28, t33] σ_7 (fun t34 σ_8 =>
  storeA 32 t4 t34 σ_8 fun u_2 σ_9 =>
  Do (loadA true 32 t4 σ_9) fun r4_2 => Q (.ret r4_2) σ_9) (fun e_1 σ_10 => Q (.pan e_1) σ_10)) (fun e_2 σ_11 => Q (.pan e_2) σ_11)) (fun e_3 σ_12 => Q (.pan e_3) σ_12)) (fun e_4 σ_13 => Q (.pan e_4) σ_13)))
theorem tree_Tree_Root.eq (a0 a1 : AV) (σ : Store) (Q : AEnd → Store → Prop) : vc (semOf Go.Proofs.Try.prog tree_Tree_Root.mark) Go.Proofs.Try.f62.ntmps tree_Tree_Root.ann (bodyOf Go.Proofs.Try.f62) (endK [.cell 4 true 32] Q) (argFr [a0, a1]) σ = tree_Tree_Root.sh a0 a1 σ Q := by kernel_rfl
theorem tree_Tree_Root.go {a0 a1 : AV} {σ : Store} {Q : AEnd → Store → Prop} (h : tree_Tree_Root.sh a0 a1 σ Q) : ACalls Go.Proofs.Try.prog 62 [a0, a1] σ Q :=
  acalls_of_eq [.cell 4 true 32] Go.Proofs.Try.func62 (by kernel_rfl) (by kernel_rfl) (by kernel_rfl) (by kernel_rfl) (tree_Tree_Root.eq a0 a1 σ Q) h
theorem Leaf_ok (bits : Int) (l : List UInt8) (m : SM) (hl : l.length ≤ 100000000000000) : aPure Go.Proofs.Try.prog 66 [trA bits, .lst 1 (l.map byt) m] (dgA (leafD bits l)) := by
  refine ACalls.fin (tree_Tree_Leaf.go ?_)
  unfold tree_Tree_Leaf.sh
  have h32 := kept_length ([0] ++ l) bits
  repeat' (first | with_reducible apply Stp.go | with_reducible refine imp fun _ => ?_ | (with_reducible refine hyp ?_ ?_; first | assumption | exact leftT_mem (by assumption)) | (with_reducible refine need ?_ ?_; first | trivial | omega | exact ⟨by assumption, by omega⟩ | (simp only [List.length_append, List.length_cons, List.length_nil, List.length_map, List.length_take, List.length_drop, List.length_replicate, List.length_set]; omega)) | (with_reducible refine fact ?_ ?_; first | trivial | exact ⟨rfl, rfl⟩ | kernel_rfl) | with_reducible refine choT (by assumption) ?_ | with_reducible refine choF (by assumption) ?_ | with_reducible refine choF' (by assumption) ?_ | (with_reducible refine altT ?_ ?_; first | omega | (simp only [List.length_append, List.length_cons, List.length_nil, List.length_map, List.length_take, List.length_drop, List.length_replicate, List.length_set]; omega)) | with_reducible refine altF ?_ | with_reducible refine all fun _ => ?_ | with_reducible refine both ?_ ?_ | (with_reducible refine choT ?_ ?_; omega) | (with_reducible refine choF ?_ ?_; omega) | with_reducible refine cho (fun _ => ?_) (fun _ => ?_))
  exact ⟨_, _, _, rfl, Sub.app_nil _, rfl, rfl⟩
instance {a : AV} {l : List UInt8} {m : SM} {b : Int} [h : IsL a byt 1 l m] : PC Go.Proofs.Try.prog 66 [trA b, a] (l.length ≤ 100000000000000) (dgA (leafD b l)) := ⟨fun hl => ⟨[trA b, .lst 1 (l.map byt) m], ⟨SubV.refl _, h.sub, trivial⟩, Leaf_ok b l m hl⟩⟩
theorem Node_ok (bits : Int) (l r : List UInt8) [hl : Len32 l] [hr : Len32 r] : aPure Go.Proofs.Try.prog 71 [trA bits, dgA l, dgA r] (dgA (nodeD bits l r)) := by
  refine ACalls.fin (tree_Tree_Node.go ?_)
  unfold tree_Tree_Node.sh
  have h1 := hl.len
  have h2 := hr.len
  have h32 := kept_length (List.replicate 0 0 ++ [1] ++ l ++ r) bits
  repeat' (first | with_reducible apply Stp.go | with_reducible refine imp fun _ => ?_ | (with_reducible refine hyp ?_ ?_; first | assumption | exact leftT_mem (by assumption)) | (with_reducible refine need ?_ ?_; first | trivial | omega | exact ⟨by assumption, by omega⟩ | (simp only [List.length_append, List.length_cons, List.length_nil, List.length_map, List.length_take, List.length_drop, List.length_replicate, List.length_set]; omega)) | (with_reducible refine fact ?_ ?_; first | trivial | exact ⟨rfl, rfl⟩ | kernel_rfl) | with_reducible refine choT (by assumption) ?_ | with_reducible refine choF (by assumption) ?_ | with_reducible refine choF' (by assumption) ?_ | (with_reducible refine altT ?_ ?_; first | omega | (simp only [List.length_append, List.length_cons, List.length_nil, List.length_map, List.length_take, List.length_drop, List.length_replicate, List.length_set]; omega)) | with_reducible refine altF ?_ | with_reducible refine all fun _ => ?_ | with_reducible refine both ?_ ?_ | (with_reducible refine choT ?_ ?_; omega) | (with_reducible refine choF ?_ ?_; omega) | with_reducible refine cho (fun _ => ?_) (fun _ => ?_))
  exact ⟨_, _, _, rfl, Sub.app_nil _, rfl, rfl⟩
instance {l r : List UInt8} {b : Int} [hl : Len32 l] [hr : Len32 r] : PC Go.Proofs.Try.prog 71 [trA b, dgA l, dgA r] True (dgA (nodeD b l r)) := ⟨fun _ => PC.of (Node_ok b l r)⟩
/-- The greatest power of two below a number. -/
def halfGo (n k : Nat) : Nat := if h : 0 < k ∧ k < n - k then halfGo n (k * 2) else k
termination_by n - k
decreasing_by omega
def halfN (n : Nat) : Nat := halfGo n 1
theorem halfGo_lt {n : Nat} : ∀ {k : Nat}, 0 < k → k < n → 0 < halfGo n k ∧ halfGo n k < n := by
  intro k
  induction h : n - k using Nat.strongRecOn generalizing k with
  | _ m ih =>
    intro h0 h1
    unfold halfGo
    split
    · rename_i h2
      exact ih (n - k * 2) (by omega) rfl (by omega) (by omega)
    · exact ⟨h0, h1⟩
theorem halfN_lt {n : Nat} (h : 2 ≤ n) : 0 < halfN n ∧ halfN n < n := halfGo_lt (by omega) (by omega)
theorem half_ok' (n : Nat) (hn : n ≤ 9223372036854775807) : aPure Go.Proofs.Try.prog 100 [I .i64 (n : Nat)] (I .i64 (halfN n : Nat)) := by
  refine tree_half.go ?_
  unfold tree_half.sh
  repeat' (first | with_reducible apply Stp.go | with_reducible refine imp fun _ => ?_ | (with_reducible refine hyp ?_ ?_; first | assumption | exact leftT_mem (by assumption)) | (with_reducible refine need ?_ ?_; first | trivial | omega | exact ⟨by assumption, by omega⟩ | (simp only [List.length_append, List.length_cons, List.length_nil, List.length_map, List.length_take, List.length_drop, List.length_replicate, List.length_set]; omega)) | (with_reducible refine fact ?_ ?_; first | trivial | exact ⟨rfl, rfl⟩ | kernel_rfl) | with_reducible refine choT (by assumption) ?_ | with_reducible refine choF (by assumption) ?_ | with_reducible refine choF' (by assumption) ?_ | (with_reducible refine altT ?_ ?_; first | omega | (simp only [List.length_append, List.length_cons, List.length_nil, List.length_map, List.length_take, List.length_drop, List.length_replicate, List.length_set]; omega)) | with_reducible refine altF ?_ | with_reducible refine all fun _ => ?_ | with_reducible refine both ?_ ?_ | (with_reducible refine choT ?_ ?_; omega) | (with_reducible refine choF ?_ ?_; omega) | with_reducible refine cho (fun _ => ?_) (fun _ => ?_))
  refine loopI (β := Nat) (fun k => 0 < k ∧ (k = 1 ∨ k ≤ n) ∧ halfGo n k = halfN n) (fun k => [I .i64 (n : Nat), I .i64 (k : Nat)]) (fun _ => []) (fun k => n - k) 1 ⟨by omega, by omega, rfl⟩ (Sub.refl _ _) ?_
  rintro k ⟨h1, h2, h3⟩
  dsimp only at h1 h2 h3 ⊢
  repeat' (first | with_reducible apply Stp.go | with_reducible refine imp fun _ => ?_ | (with_reducible refine hyp ?_ ?_; first | assumption | exact leftT_mem (by assumption)) | (with_reducible refine need ?_ ?_; first | trivial | omega | exact ⟨by assumption, by omega⟩ | (simp only [List.length_append, List.length_cons, List.length_nil, List.length_map, List.length_take, List.length_drop, List.length_replicate, List.length_set]; omega)) | (with_reducible refine fact ?_ ?_; first | trivial | exact ⟨rfl, rfl⟩ | kernel_rfl) | with_reducible refine choT (by assumption) ?_ | with_reducible refine choF (by assumption) ?_ | with_reducible refine choF' (by assumption) ?_ | (with_reducible refine altT ?_ ?_; first | omega | (simp only [List.length_append, List.length_cons, List.length_nil, List.length_map, List.length_take, List.length_drop, List.length_replicate, List.length_set]; omega)) | with_reducible refine altF ?_ | with_reducible refine all fun _ => ?_ | with_reducible refine both ?_ ?_ | (with_reducible refine choT ?_ ?_; omega) | (with_reducible refine choF ?_ ?_; omega) | with_reducible refine cho (fun _ => ?_) (fun _ => ?_))
  · rename_i h4
    have e : halfGo n k = halfGo n (k * 2) := by
      conv => lhs; unfold halfGo
      rw [dif_pos ⟨h1, by omega⟩]
    exact again (k * 2) (by omega) ⟨by omega, by omega, e.symm.trans h3⟩ (Sub.refl _ _)
  · rename_i h4
    have e : halfGo n k = k := by
      unfold halfGo
      rw [dif_neg (by omega)]
    rw [← h3, e]
    exact ⟨rfl, rfl⟩
instance {n : Nat} : PC Go.Proofs.Try.prog 100 [I .i64 (n : Nat)] (n ≤ 9223372036854775807) (I .i64 (halfN n : Nat)) := ⟨fun hl => PC.of (half_ok' n hl)⟩
theorem halfGo_pow {n : Nat} : ∀ {k : Nat}, 0 < k → (∃ j, halfGo n k = k * 2 ^ j) ∧ n ≤ 2 * halfGo n k := by
  intro k
  induction h : n - k using Nat.strongRecOn generalizing k with
  | _ m ih =>
    intro h0
    unfold halfGo
    split
    · rename_i h2
      obtain ⟨⟨j, hj⟩, h3⟩ := ih (n - k * 2) (by omega) rfl (by omega)
      exact ⟨⟨j + 1, by rw [hj, Nat.mul_assoc, Nat.pow_succ, Nat.mul_comm 2]⟩, h3⟩
    · exact ⟨⟨0, by simp⟩, by omega⟩
/-- It is a power of two, and at least half. -/
theorem halfN_pow (n : Nat) : (∃ j, halfN n = 2 ^ j) ∧ n ≤ 2 * halfN n := by
  obtain ⟨⟨j, hj⟩, h⟩ := halfGo_pow (n := n) (k := 1) (by omega)
  exact ⟨⟨j, by rw [halfN, hj, Nat.one_mul]⟩, h⟩
/-- Both halves of what is no more than a power are no more than the one below. -/
theorem halfN_log {n m : Nat} (h2 : 2 ≤ n) (h : n ≤ 2 ^ (m + 1)) : halfN n ≤ 2 ^ m ∧ n - halfN n ≤ 2 ^ m := by
  obtain ⟨⟨j, hj⟩, h3⟩ := halfN_pow n
  have hh := (halfN_lt h2).2
  have h4 : 2 ^ j < 2 ^ (m + 1) := by omega
  have h5 : j < m + 1 := (Nat.pow_lt_pow_iff_right (by decide)).1 h4
  have h6 : 2 ^ j ≤ 2 ^ m := Nat.pow_le_pow_right (by decide) (by omega)
  omega
/-- Bytes as an element. -/
abbrev bl (b : List UInt8) : AV := .lst 1 (b.map byt) .ro
instance (b : List UInt8) : Cells (bl b) [bl b] := ⟨rfl⟩
instance : Enc bl 1 := ⟨fun e => ⟨rfl, fun c hc => by
  have hc : c ∈ [bl e] := hc
  rw [List.mem_singleton.1 hc]; rfl⟩, by decide, fun _ => rfl⟩
instance (b : List UInt8) : One (bl b) := ⟨rfl⟩
/-- The root of leaves. -/
def rootD (bits : Int) (L : List (List UInt8)) : List UInt8 :=
  if h0 : L.length = 0 then kept [] bits
  else if h1 : L.length = 1 then leafD bits (L.getD 0 default)
  else nodeD bits (rootD bits (L.take (halfN L.length))) (rootD bits (L.drop (halfN L.length)))
termination_by L.length
decreasing_by
  · have := halfN_lt (n := L.length) (by omega); simp only [List.length_take]; omega
  · have := halfN_lt (n := L.length) (by omega); simp only [List.length_drop]; omega
theorem rootD_len (bits : Int) (L : List (List UInt8)) : (rootD bits L).length = 32 := by
  unfold rootD
  split
  · exact kept_length _ _
  · split
    · exact Len32.len
    · exact kept_length _ _
instance (bits : Int) (L : List (List UInt8)) : Len32 (rootD bits L) := ⟨rootD_len _ _⟩
theorem Root_ok (bits : Int) : ∀ (n : Nat) (L : List (List UInt8)) (m : SM), L.length = n → L.length ≤ 1000000 → (∀ b ∈ L, b.length ≤ 100000000000000) → aPure Go.Proofs.Try.prog 62 [trA bits, .lst 1 (L.map bl) m] (dgA (rootD bits L)) := by
  intro n
  induction n using Nat.strongRecOn with
  | _ n ih =>
    intro L m hn hL hb
    refine ACalls.fin (tree_Tree_Root.go ?_)
    unfold tree_Tree_Root.sh
    have inst : ∀ (L' : List (List UInt8)) (m' : SM), PC Go.Proofs.Try.prog 62 [trA bits, .lst 1 (L'.map bl) m'] (L'.length < n ∧ L'.length ≤ 1000000 ∧ ∀ b ∈ L', b.length ≤ 100000000000000) (dgA (rootD bits L')) := fun L' m' => ⟨fun h => PC.of (ih L'.length h.1 L' m' rfl h.2.1 h.2.2)⟩
    have h32 := rootD_len bits L
    have k32 := kept_length [] bits
    by_cases h0 : L.length = 0
    · have e : rootD bits L = kept [] bits := by unfold rootD; rw [dif_pos h0]
      rw [e] at h32 ⊢
      repeat' (first | with_reducible apply Stp.go | with_reducible refine imp fun _ => ?_ | (with_reducible refine hyp ?_ ?_; first | assumption | exact leftT_mem (by assumption)) | (with_reducible refine need ?_ ?_; first | trivial | omega | exact ⟨by assumption, by omega⟩ | (simp only [List.length_append, List.length_cons, List.length_nil, List.length_map, List.length_take, List.length_drop, List.length_replicate, List.length_set]; omega)) | (with_reducible refine fact ?_ ?_; first | trivial | exact ⟨rfl, rfl⟩ | kernel_rfl) | with_reducible refine choT (by assumption) ?_ | with_reducible refine choF (by assumption) ?_ | with_reducible refine choF' (by assumption) ?_ | (with_reducible refine altT ?_ ?_; first | omega | (simp only [List.length_append, List.length_cons, List.length_nil, List.length_map, List.length_take, List.length_drop, List.length_replicate, List.length_set]; omega)) | with_reducible refine altF ?_ | with_reducible refine all fun _ => ?_ | with_reducible refine both ?_ ?_ | (with_reducible refine choT ?_ ?_; omega) | (with_reducible refine choF ?_ ?_; omega) | with_reducible refine cho (fun _ => ?_) (fun _ => ?_))
      exact ⟨_, _, _, rfl, Sub.app_nil _, rfl, rfl⟩
    · by_cases h1 : L.length = 1
      · have e : rootD bits L = leafD bits (L.getD 0 default) := by unfold rootD; rw [dif_neg h0, dif_pos h1]
        have hb0 : (L.getD 0 default).length ≤ 100000000000000 := hb _ (by rw [List.getD_eq_getElem?_getD, List.getElem?_eq_getElem (by omega)]; exact List.getElem_mem _)
        rw [e] at h32 ⊢
        repeat' (first | with_reducible apply Stp.go | with_reducible refine imp fun _ => ?_ | (with_reducible refine hyp ?_ ?_; first | assumption | exact leftT_mem (by assumption)) | (with_reducible refine need ?_ ?_; first | trivial | omega | exact ⟨by assumption, by omega⟩ | (simp only [List.length_append, List.length_cons, List.length_nil, List.length_map, List.length_take, List.length_drop, List.length_replicate, List.length_set]; omega)) | (with_reducible refine fact ?_ ?_; first | trivial | exact ⟨rfl, rfl⟩ | kernel_rfl) | with_reducible refine choT (by assumption) ?_ | with_reducible refine choF (by assumption) ?_ | with_reducible refine choF' (by assumption) ?_ | (with_reducible refine altT ?_ ?_; first | omega | (simp only [List.length_append, List.length_cons, List.length_nil, List.length_map, List.length_take, List.length_drop, List.length_replicate, List.length_set]; omega)) | with_reducible refine altF ?_ | with_reducible refine all fun _ => ?_ | with_reducible refine both ?_ ?_ | (with_reducible refine choT ?_ ?_; omega) | (with_reducible refine choF ?_ ?_; omega) | with_reducible refine cho (fun _ => ?_) (fun _ => ?_))
        exact ⟨_, _, _, rfl, Sub.app_nil _, rfl, rfl⟩
      · have hh := halfN_lt (n := L.length) (by omega)
        have e : rootD bits L = nodeD bits (rootD bits (L.take (halfN L.length))) (rootD bits (L.drop (halfN L.length))) := by
          conv => lhs; unfold rootD
          rw [dif_neg h0, dif_neg h1]
        have p1 : (L.take (halfN L.length)).length < n ∧ (L.take (halfN L.length)).length ≤ 1000000 ∧ ∀ b ∈ L.take (halfN L.length), b.length ≤ 100000000000000 := ⟨by simp; omega, by simp; omega, fun b h => hb b (List.mem_of_mem_take h)⟩
        have p2 : (L.drop (halfN L.length)).length < n ∧ (L.drop (halfN L.length)).length ≤ 1000000 ∧ ∀ b ∈ L.drop (halfN L.length), b.length ≤ 100000000000000 := ⟨by simp; omega, by simp; omega, fun b h => hb b (List.mem_of_mem_drop h)⟩
        rw [e] at h32 ⊢
        repeat' (first | with_reducible apply Stp.go | with_reducible refine imp fun _ => ?_ | (with_reducible refine hyp ?_ ?_; first | assumption | exact leftT_mem (by assumption)) | (with_reducible refine need ?_ ?_; first | trivial | omega | exact ⟨by assumption, by omega⟩ | (simp only [List.length_append, List.length_cons, List.length_nil, List.length_map, List.length_take, List.length_drop, List.length_replicate, List.length_set]; omega)) | (with_reducible refine fact ?_ ?_; first | trivial | exact ⟨rfl, rfl⟩ | kernel_rfl) | with_reducible refine choT (by assumption) ?_ | with_reducible refine choF (by assumption) ?_ | with_reducible refine choF' (by assumption) ?_ | (with_reducible refine altT ?_ ?_; first | omega | (simp only [List.length_append, List.length_cons, List.length_nil, List.length_map, List.length_take, List.length_drop, List.length_replicate, List.length_set]; omega)) | with_reducible refine altF ?_ | with_reducible refine all fun _ => ?_ | with_reducible refine both ?_ ?_ | (with_reducible refine choT ?_ ?_; omega) | (with_reducible refine choF ?_ ?_; omega) | with_reducible refine cho (fun _ => ?_) (fun _ => ?_))
        exact ⟨_, _, _, rfl, Sub.app_nil _, rfl, rfl⟩
instance {a : AV} {L : List (List UInt8)} {m : SM} {b : Int} [h : IsL a bl 1 L m] : PC Go.Proofs.Try.prog 62 [trA b, a] (L.length ≤ 1000000 ∧ ∀ b ∈ L, b.length ≤ 100000000000000) (dgA (rootD b L)) := ⟨fun hl => ⟨[trA b, .lst 1 (L.map bl) m], ⟨SubV.refl _, h.sub, trivial⟩, Root_ok b _ L m rfl hl.1 hl.2⟩⟩
end Go.Ab

/- The document's leaves, nodes and roots. -/
set_option linter.unusedVariables false
set_option linter.unusedSimpArgs false
namespace Go.Ab
def ref05_LeafText.mark : Mark := ⟨fun t => false, fun t => false, fun t => false, fun t => false, fun t => false⟩
def ref05_LeafText.ann : Ann := ⟨fun n => [], fun n => none, fun n => none⟩
def ref05_NodeText.mark : Mark := ⟨fun t => false, fun t => false, fun t => Nat.beq t 2 || Nat.beq t 3, fun t => false, fun t => false⟩
def ref05_NodeText.ann : Ann := ⟨fun n => [], fun n => none, fun n => none⟩
def ref05_Leaf.mark : Mark := ⟨fun t => Nat.beq t 6 || Nat.beq t 8, fun t => false, fun t => false, fun t => false, fun t => false⟩
def ref05_Leaf.ann : Ann := ⟨fun n => [], fun n => none, fun n => none⟩
def ref05_Node.mark : Mark := ⟨fun t => Nat.beq t 9 || Nat.beq t 11, fun t => false, fun t => Nat.beq t 4 || Nat.beq t 5, fun t => Nat.beq t 7 || Nat.beq t 8, fun t => false⟩
def ref05_Node.ann : Ann := ⟨fun n => [], fun n => none, fun n => none⟩
def ref05_Half.mark : Mark := ⟨fun t => false, fun t => false, fun t => false, fun t => false, fun t => false⟩
def ref05_Half.ann : Ann := ⟨fun n => bif Nat.beq n 2 then [0, 3] else [], fun n => none, fun n => none⟩
def ref05_Root.mark : Mark := ⟨fun t => Nat.beq t 12 || Nat.beq t 20 || Nat.beq t 23 || Nat.beq t 28 || Nat.beq t 33 || Nat.beq t 37, fun t => false, fun t => false, fun t => Nat.beq t 19, fun t => false⟩
def ref05_Root.ann : Ann := ⟨fun n => [], fun n => none, fun n => none⟩
end Go.Ab

/- What stands beside a leaf. -/
set_option linter.unusedVariables false
set_option linter.unusedSimpArgs false
namespace Go.Ab
/-- Thirty-two bytes. -/
structure D32 where
  val : List UInt8
  len : val.length = 32
instance : Inhabited D32 := ⟨⟨List.replicate 32 0, by simp⟩⟩
instance (d : D32) : Len32 d.val := ⟨d.len⟩
abbrev DgT : TypeId := 46
abbrev dgF (d : D32) : AV := dgA d.val
instance : Enc dgF 32 := ⟨fun d => ⟨by simp [AV.cells, d.len], fun c hc => by
  obtain ⟨y, _, rfl⟩ := List.mem_map.1 (show c ∈ d.val.map byt from hc)
  rfl⟩, by decide, fun d => by
  show mkE (d.val.map byt) = .agg (d.val.map byt)
  have h := d.len
  unfold mkE
  split
  · rename_i c e
    have := congrArg List.length e
    simp [h] at this
  · rfl⟩
instance (d : List UInt8) [h : Len32 d] : AsF dgF (.agg (d.map byt)) ⟨d, h.len⟩ := ⟨rfl⟩
instance : ElemF [.val (.int .u8 0), .val (.int .u8 0), .val (.int .u8 0), .val (.int .u8 0), .val (.int .u8 0), .val (.int .u8 0), .val (.int .u8 0), .val (.int .u8 0), .val (.int .u8 0), .val (.int .u8 0), .val (.int .u8 0), .val (.int .u8 0), .val (.int .u8 0), .val (.int .u8 0), .val (.int .u8 0), .val (.int .u8 0), .val (.int .u8 0), .val (.int .u8 0), .val (.int .u8 0), .val (.int .u8 0), .val (.int .u8 0), .val (.int .u8 0), .val (.int .u8 0), .val (.int .u8 0), .val (.int .u8 0), .val (.int .u8 0), .val (.int .u8 0), .val (.int .u8 0), .val (.int .u8 0), .val (.int .u8 0), .val (.int .u8 0), .val (.int .u8 0)] D32 dgF := ⟨trivial⟩
/-- A root, as thirty-two bytes. -/
abbrev rootF (b : Int) (L : List (List UInt8)) : D32 := ⟨rootD b L, Len32.len⟩
/-- What stands beside a leaf. -/
def pathD (b : Int) (L : List (List UInt8)) (i : Nat) : List D32 :=
  if h : L.length ≤ 1 then []
  else if i < halfN L.length then pathD b (L.take (halfN L.length)) i ++ [rootF b (L.drop (halfN L.length))]
  else pathD b (L.drop (halfN L.length)) (i - halfN L.length) ++ [rootF b (L.take (halfN L.length))]
termination_by L.length
decreasing_by
  · have := halfN_lt (n := L.length) (by omega); simp only [List.length_take]; omega
  · have := halfN_lt (n := L.length) (by omega); simp only [List.length_drop]; omega
theorem pathD_le (b : Int) : ∀ (n : Nat) (L : List (List UInt8)) (i : Nat), L.length = n → (pathD b L i).length ≤ n := by
  intro n
  induction n using Nat.strongRecOn with
  | _ n ih =>
    intro L i hn
    unfold pathD
    split
    · simp
    · rename_i h
      have hh := halfN_lt (n := L.length) (by omega)
      split
      · have := ih (L.take (halfN L.length)).length (by simp; omega) _ i rfl
        simp at this ⊢; omega
      · have := ih (L.drop (halfN L.length)).length (by simp; omega) _ (i - halfN L.length) rfl
        simp at this ⊢; omega
def tree_Tree_path.mark : Mark := ⟨fun t => false, fun t => false, fun t => Nat.beq t 3, fun t => Nat.beq t 17 || Nat.beq t 23 || Nat.beq t 30 || Nat.beq t 38, fun t => false⟩
def tree_Tree_path.ann : Ann := ⟨fun n => [], fun n => none, fun n => none⟩
/-- '(marlstone/tree.Tree).path' -/
def tree_Tree_path.sh (a0 a1 a2 : AV) (σ : Store) (Q : AEnd → Store → Prop) : Prop :=
  Do (aFreeze ((a0 : AV)).cells) fun t3 =>
  Do (aBuiltin Go.Proofs.Try.prog .len #[37] [a1]) fun t9 =>
  Do (aBin Go.Proofs.Try.prog .eql 3 t9 (.val (.int .i64 1))) fun t10 =>
  aCond t10
    (Q (.ret (.val (.slice none 0 0))) σ)
    (Do (aBuiltin Go.Proofs.Try.prog .len #[37] [a1]) fun t12 =>
  aCall Go.Proofs.Try.prog 100 [t12] σ (fun t13 σ =>
  Do (aBin Go.Proofs.Try.prog .lss 3 a2 t13) fun t16 =>
  aCond t16
    (Do (loadF true 1 t3) fun t17 =>
    Do (aSlice .slice 1 a1 none (some t13) none) fun t20 =>
    Do (loadF true 1 t3) fun t23 =>
    Do (aSlice .slice 1 a1 (some t13) none none) fun t26 =>
    aCall Go.Proofs.Try.prog 108 [t17, t20, a2] σ (fun t22 σ_1 =>
    aCall Go.Proofs.Try.prog 62 [t23, t26] σ_1 (fun t27 σ_2 =>
    Do (aSlLit (mkE [.val (.int .u8 0), .val (.int .u8 0), .val (.int .u8 0), .val (.int .u8 0), .val (.int .u8 0), .val (.int .u8 0), .val (.int .u8 0), .val (.int .u8 0), .val (.int .u8 0), .val (.int .u8 0), .val (.int .u8 0), .val (.int .u8 0), .val (.int .u8 0), .val (.int .u8 0), .val (.int .u8 0), .val (.int .u8 0), .val (.int .u8 0), .val (.int .u8 0), .val (.int .u8 0), .val (.int .u8 0), .val (.int .u8 0), .val (.int .u8 0), .val (.int .u8 0), .val (.int .u8 0), .val (.int .u8 0), .val (.int .u8 0), .val (.int .u8 0), .val (.int .u8 0), .val (.int .u8 0), .val (.int .u8 0), .val (.int .u8 0), .val (.int .u8 0)]) 32 1 [(0, t27)]) fun t28 =>
    aAppend 46 32 32 t22 t28 σ_2 (subK fun t29 σ_3 =>
    Q (.ret t29) σ_3)) (fun e σ_4 => Q (.pan e) σ_4)) (fun e_1 σ_5 => Q (.pan e_1) σ_5))
    (Do (loadF true 1 t3) fun t30 =>
  Do (aSlice .slice 1 a1 (some t13) none none) fun t33 =>
  Do (aBin Go.Proofs.Try.prog .sub 3 a2 t13) fun t36 =>
  Do (loadF true 1 t3) fun t38 =>
  Do (aSlice .slice 1 a1 none (some t13) none) fun t41 =>
  aCall Go.Proofs.Try.prog 108 [t30, t33, t36] σ (fun t37 σ_6 =>
  aCall Go.Proofs.Try.prog 62 [t38, t41] σ_6 (fun t42 σ_7 =>
  Do (aSlLit (mkE [.val (.int .u8 0), .val (.int .u8 0), .val (.int .u8 0), .val (.int .u8 0), .val (.int .u8 0), .val (.int .u8 0), .val (.int .u8 0), .val (.int .u8 0), .val (.int .u8 0), .val (.int .u8 0), .val (.int .u8 0), .val (.int .u8 0), .val (.int .u8 0), .val (.int .u8 0), .val (.int .u8 0), .val (.int .u8 0), .val (.int .u8 0), .val (.int .u8 0), .val (.int .u8 0), .val (.int .u8 0), .val (.int .u8 0), .val (.int .u8 0), .val (.int .u8 0), .val (.int .u8 0), .val (.int .u8 0), .val (.int .u8 0), .val (.int .u8 0), .val (.int .u8 0), .val (.int .u8 0), .val (.int .u8 0), .val (.int .u8 0), .val (.int .u8 0)]) 32 1 [(0, t42)]) fun t43 =>
  aAppend 46 32 32 t37 t43 σ_7 (subK fun t44 σ_8 =>
  Q (.ret t44) σ_8)) (fun e_2 σ_9 => Q (.pan e_2) σ_9)) (fun e_3 σ_10 => Q (.pan e_3) σ_10))) (fun e_4 σ_11 => Q (.pan e_4) σ_11))
theorem tree_Tree_path.eq (a0 a1 a2 : AV) (σ : Store) (Q : AEnd → Store → Prop) : vc (semOf Go.Proofs.Try.prog tree_Tree_path.mark) Go.Proofs.Try.f108.ntmps tree_Tree_path.ann (bodyOf Go.Proofs.Try.f108) (endK [.tmp 6] Q) (argFr [a0, a1, a2]) σ = tree_Tree_path.sh a0 a1 a2 σ Q := by kernel_rfl
theorem tree_Tree_path.go {a0 a1 a2 : AV} {σ : Store} {Q : AEnd → Store → Prop} (h : tree_Tree_path.sh a0 a1 a2 σ Q) : ACalls Go.Proofs.Try.prog 108 [a0, a1, a2] σ Q :=
  acalls_of_eq [.tmp 6] Go.Proofs.Try.func108 (by kernel_rfl) (by kernel_rfl) (by kernel_rfl) (by kernel_rfl) (tree_Tree_path.eq a0 a1 a2 σ Q) h
def tree_Tree_Path.mark : Mark := ⟨fun t => false, fun t => false, fun t => Nat.beq t 3, fun t => Nat.beq t 16, fun t => false⟩
def tree_Tree_Path.ann : Ann := ⟨fun n => [], fun n => none, fun n => none⟩
/-- '(marlstone/tree.Tree).Path' -/
def tree_Tree_Path.sh (a0 a1 a2 : AV) (σ : Store) (Q : AEnd → Store → Prop) : Prop :=
  Do (aFreeze ((a0 : AV)).cells) fun t3 =>
  Do (aBin Go.Proofs.Try.prog .lss 3 a2 (.val (.int .i64 0))) fun t9 =>
  Do (aGuard t9 false (aIs a2)) fun t11 =>
  Do (aGuard t9 false (aIs a1)) fun t12 =>
  Do (aGuard t9 false (aBuiltin Go.Proofs.Try.prog .len #[37] [t12])) fun t13 =>
  Do (aGuard t9 false (aBin Go.Proofs.Try.prog .geq 3 t11 t13)) fun t14 =>
  Do (aPick t9 (.val (.bool true)) t14) fun t15 =>
  aCond t15
    (Q (.ret (.tuple [(.val (.slice none 0 0)), (.val (.int .i64 1))])) σ)
    (Do (loadF true 1 t3) fun t16 =>
  aCall Go.Proofs.Try.prog 108 [t16, a1, a2] σ (fun t19 σ =>
  Q (.ret (.tuple [t19, (.val (.int .i64 0))])) σ) (fun e σ_1 => Q (.pan e) σ_1))
theorem tree_Tree_Path.eq (a0 a1 a2 : AV) (σ : Store) (Q : AEnd → Store → Prop) : vc (semOf Go.Proofs.Try.prog tree_Tree_Path.mark) Go.Proofs.Try.f86.ntmps tree_Tree_Path.ann (bodyOf Go.Proofs.Try.f86) (endK [.tmp 6, .tmp 7] Q) (argFr [a0, a1, a2]) σ = tree_Tree_Path.sh a0 a1 a2 σ Q := by kernel_rfl
theorem tree_Tree_Path.go {a0 a1 a2 : AV} {σ : Store} {Q : AEnd → Store → Prop} (h : tree_Tree_Path.sh a0 a1 a2 σ Q) : ACalls Go.Proofs.Try.prog 86 [a0, a1, a2] σ Q :=
  acalls_of_eq [.tmp 6, .tmp 7] Go.Proofs.Try.func86 (by kernel_rfl) (by kernel_rfl) (by kernel_rfl) (by kernel_rfl) (tree_Tree_Path.eq a0 a1 a2 σ Q) h
theorem path_ok (bits : Int) : ∀ (n : Nat) (L : List (List UInt8)) (m : SM) (i : Nat), L.length = n → i < L.length → L.length ≤ 1000000 → (∀ b ∈ L, b.length ≤ 100000000000000) →
    ACalls Go.Proofs.Try.prog 108 [trA bits, .lst 1 (L.map bl) m, I .i64 (i : Nat)] [] fun x σ' => ∃ v, x = .ret (.own v (pathD bits L i).length) ∧ σ' = [.row v DgT 32 ((pathD bits L i).map dgF) 0] := by
  intro n
  induction n using Nat.strongRecOn with
  | _ n ih =>
    intro L m i hn hi hL hb
    refine ACalls.fin (tree_Tree_path.go ?_)
    unfold tree_Tree_path.sh
    have inst : ∀ (L' : List (List UInt8)) (m' : SM) (i' : Nat) (σ : Store), EC Go.Proofs.Try.prog 108 [trA bits, .lst 1 (L'.map bl) m', I .i64 (i' : Nat)] σ (L'.length < n ∧ i' < L'.length ∧ L'.length ≤ 1000000 ∧ ∀ b ∈ L', b.length ≤ 100000000000000) Value (fun v => .own v (pathD bits L' i').length) (fun v => .row v DgT 32 ((pathD bits L' i').map dgF) 0 :: σ) := fun L' m' i' σ => ⟨fun h => ((ih L'.length h.1 L' m' i' rfl h.2.1 h.2.2.1 h.2.2.2).frame σ).mono fun x τ ⟨σ1, e1, _, v, e2, e3⟩ => ⟨v, e2, by rw [e1, e3]; rfl⟩⟩
    by_cases h1 : L.length = 1
    · have e : pathD bits L i = [] := by unfold pathD; rw [dif_pos (by omega)]
      rw [e]
      repeat' (first | with_reducible apply Stp.go | with_reducible refine imp fun _ => ?_ | (with_reducible refine hyp ?_ ?_; first | assumption | exact leftT_mem (by assumption)) | (with_reducible refine need ?_ ?_; first | trivial | omega | exact ⟨by assumption, by omega⟩ | (simp only [List.length_append, List.length_cons, List.length_nil, List.length_map, List.length_take, List.length_drop, List.length_replicate, List.length_set]; omega)) | (with_reducible refine fact ?_ ?_; first | trivial | exact ⟨rfl, rfl⟩ | kernel_rfl) | with_reducible refine choT (by assumption) ?_ | with_reducible refine choF (by assumption) ?_ | with_reducible refine choF' (by assumption) ?_ | (with_reducible refine altT ?_ ?_; first | omega | (simp only [List.length_append, List.length_cons, List.length_nil, List.length_map, List.length_take, List.length_drop, List.length_replicate, List.length_set]; omega)) | with_reducible refine altF ?_ | with_reducible refine all fun _ => ?_ | with_reducible refine both ?_ ?_ | (with_reducible refine choT ?_ ?_; omega) | (with_reducible refine choF ?_ ?_; omega) | with_reducible refine cho (fun _ => ?_) (fun _ => ?_))
      exact ⟨_, _, _, rfl, Sub.nil_own DgT (sz := 32) (by decide) [] [] [], _, rfl, rfl⟩
    · have hh := halfN_lt (n := L.length) (by omega)
      have b1 : ∀ b ∈ L.take (halfN L.length), b.length ≤ 100000000000000 := fun b h => hb b (List.mem_of_mem_take h)
      have b2 : ∀ b ∈ L.drop (halfN L.length), b.length ≤ 100000000000000 := fun b h => hb b (List.mem_of_mem_drop h)
      have l1 : (L.take (halfN L.length)).length = halfN L.length := by rw [List.length_take]; omega
      have l2 : (L.drop (halfN L.length)).length = L.length - halfN L.length := by rw [List.length_drop]
      have r1 : (L.take (halfN L.length)).length ≤ 1000000 ∧ ∀ b ∈ L.take (halfN L.length), b.length ≤ 100000000000000 := ⟨by omega, b1⟩
      have r2 : (L.drop (halfN L.length)).length ≤ 1000000 ∧ ∀ b ∈ L.drop (halfN L.length), b.length ≤ 100000000000000 := ⟨by omega, b2⟩
      by_cases h2 : i < halfN L.length
      · have e : pathD bits L i = pathD bits (L.take (halfN L.length)) i ++ [rootF bits (L.drop (halfN L.length))] := by
          conv => lhs; unfold pathD
          rw [dif_neg (by omega), if_pos h2]
        have p1 : (L.take (halfN L.length)).length < n ∧ i < (L.take (halfN L.length)).length ∧ (L.take (halfN L.length)).length ≤ 1000000 ∧ ∀ b ∈ L.take (halfN L.length), b.length ≤ 100000000000000 := ⟨by omega, by omega, by omega, b1⟩
        have q1 := pathD_le bits _ (L.take (halfN L.length)) i rfl
        rw [e]
        repeat' (first | with_reducible apply Stp.go | with_reducible refine imp fun _ => ?_ | (with_reducible refine hyp ?_ ?_; first | assumption | exact leftT_mem (by assumption)) | (with_reducible refine need ?_ ?_; first | trivial | omega | exact ⟨by assumption, by omega⟩ | (simp only [List.length_append, List.length_cons, List.length_nil, List.length_map, List.length_take, List.length_drop, List.length_replicate, List.length_set]; omega)) | (with_reducible refine fact ?_ ?_; first | trivial | exact ⟨rfl, rfl⟩ | kernel_rfl) | with_reducible refine choT (by assumption) ?_ | with_reducible refine choF (by assumption) ?_ | with_reducible refine choF' (by assumption) ?_ | (with_reducible refine altT ?_ ?_; first | omega | (simp only [List.length_append, List.length_cons, List.length_nil, List.length_map, List.length_take, List.length_drop, List.length_replicate, List.length_set]; omega)) | with_reducible refine altF ?_ | with_reducible refine all fun _ => ?_ | with_reducible refine both ?_ ?_ | (with_reducible refine choT ?_ ?_; omega) | (with_reducible refine choF ?_ ?_; omega) | with_reducible refine cho (fun _ => ?_) (fun _ => ?_))
        exact ⟨_, _, _, rfl, Sub.refl _ _, _, rfl, rfl⟩
      · have e : pathD bits L i = pathD bits (L.drop (halfN L.length)) (i - halfN L.length) ++ [rootF bits (L.take (halfN L.length))] := by
          conv => lhs; unfold pathD
          rw [dif_neg (by omega), if_neg h2]
        have p1 : (L.drop (halfN L.length)).length < n ∧ i - halfN L.length < (L.drop (halfN L.length)).length ∧ (L.drop (halfN L.length)).length ≤ 1000000 ∧ ∀ b ∈ L.drop (halfN L.length), b.length ≤ 100000000000000 := ⟨by omega, by omega, by omega, b2⟩
        have q1 := pathD_le bits _ (L.drop (halfN L.length)) (i - halfN L.length) rfl
        rw [e]
        repeat' (first | with_reducible apply Stp.go | with_reducible refine imp fun _ => ?_ | (with_reducible refine hyp ?_ ?_; first | assumption | exact leftT_mem (by assumption)) | (with_reducible refine need ?_ ?_; first | trivial | omega | exact ⟨by assumption, by omega⟩ | (simp only [List.length_append, List.length_cons, List.length_nil, List.length_map, List.length_take, List.length_drop, List.length_replicate, List.length_set]; omega)) | (with_reducible refine fact ?_ ?_; first | trivial | exact ⟨rfl, rfl⟩ | kernel_rfl) | with_reducible refine choT (by assumption) ?_ | with_reducible refine choF (by assumption) ?_ | with_reducible refine choF' (by assumption) ?_ | (with_reducible refine altT ?_ ?_; first | omega | (simp only [List.length_append, List.length_cons, List.length_nil, List.length_map, List.length_take, List.length_drop, List.length_replicate, List.length_set]; omega)) | with_reducible refine altF ?_ | with_reducible refine all fun _ => ?_ | with_reducible refine both ?_ ?_ | (with_reducible refine choT ?_ ?_; omega) | (with_reducible refine choF ?_ ?_; omega) | with_reducible refine cho (fun _ => ?_) (fun _ => ?_))
        exact ⟨_, _, _, rfl, Sub.refl _ _, _, rfl, rfl⟩
theorem Path_ok (bits : Int) (L : List (List UInt8)) (m : SM) (i : Nat) (hi : i < L.length) (hL : L.length ≤ 1000000) (hb : ∀ b ∈ L, b.length ≤ 100000000000000) :
    aPure Go.Proofs.Try.prog 86 [trA bits, .lst 1 (L.map bl) m, I .i64 (i : Nat)] (.tuple [.lst 32 ((pathD bits L i).map dgF) .ro, I .i64 0]) := by
  refine ACalls.fin (tree_Tree_Path.go ?_)
  unfold tree_Tree_Path.sh
  have inst : ∀ σ : Store, EC Go.Proofs.Try.prog 108 [trA bits, .lst 1 (L.map bl) m, I .i64 (i : Nat)] σ True Value (fun v => .own v (pathD bits L i).length) (fun v => .row v DgT 32 ((pathD bits L i).map dgF) 0 :: σ) := fun σ => ⟨fun h => ((path_ok bits _ L m i rfl hi hL hb).frame σ).mono fun x τ ⟨σ1, e1, _, v, e2, e3⟩ => ⟨v, e2, by rw [e1, e3]; rfl⟩⟩
  repeat' (first | with_reducible apply Stp.go | with_reducible refine imp fun _ => ?_ | (with_reducible refine hyp ?_ ?_; first | assumption | exact leftT_mem (by assumption)) | (with_reducible refine need ?_ ?_; first | trivial | omega | exact ⟨by assumption, by omega⟩ | (simp only [List.length_append, List.length_cons, List.length_nil, List.length_map, List.length_take, List.length_drop, List.length_replicate, List.length_set]; omega)) | (with_reducible refine fact ?_ ?_; first | trivial | exact ⟨rfl, rfl⟩ | kernel_rfl) | with_reducible refine choT (by assumption) ?_ | with_reducible refine choF (by assumption) ?_ | with_reducible refine choF' (by assumption) ?_ | (with_reducible refine altT ?_ ?_; first | omega | (simp only [List.length_append, List.length_cons, List.length_nil, List.length_map, List.length_take, List.length_drop, List.length_replicate, List.length_set]; omega)) | with_reducible refine altF ?_ | with_reducible refine all fun _ => ?_ | with_reducible refine both ?_ ?_ | (with_reducible refine choT ?_ ?_; omega) | (with_reducible refine choF ?_ ?_; omega) | with_reducible refine cho (fun _ => ?_) (fun _ => ?_))
  exact ⟨_, _, _, rfl, Sub.tuple (retOwn (Sub.refl _ _)), rfl, rfl⟩
instance {a : AV} {L : List (List UInt8)} {m : SM} {b : Int} {i : Nat} [h : IsL a bl 1 L m] : PC Go.Proofs.Try.prog 86 [trA b, a, I .i64 (i : Nat)] (i < L.length ∧ L.length ≤ 1000000 ∧ ∀ b ∈ L, b.length ≤ 100000000000000) (.tuple [.lst 32 ((pathD b L i).map dgF) .ro, I .i64 0]) := ⟨fun hl => ⟨[trA b, .lst 1 (L.map bl) m, I .i64 (i : Nat)], ⟨SubV.refl _, h.sub, SubV.refl _, trivial⟩, Path_ok b L m i hl.1 hl.2.1 hl.2.2⟩⟩
def tree_Tree_beside.mark : Mark := ⟨fun t => false, fun t => false, fun t => Nat.beq t 5, fun t => Nat.beq t 22 || Nat.beq t 35 || Nat.beq t 43, fun t => false⟩
def tree_Tree_beside.ann : Ann := ⟨fun n => [], fun n => none, fun n => none⟩
def tree_Tree_Range.mark : Mark := ⟨fun t => false, fun t => false, fun t => Nat.beq t 4, fun t => Nat.beq t 23, fun t => false⟩
def tree_Tree_Range.ann : Ann := ⟨fun n => [], fun n => none, fun n => none⟩
end Go.Ab

/- Functions of layers 1, 3 and 4: bytes of numbers, what keys share, their order, what is right and fit. -/
set_option linter.unusedVariables false
set_option linter.unusedSimpArgs false
namespace Go.Ab
def cmp_isNaN.mark : Mark := ⟨fun t => false, fun t => false, fun t => false, fun t => false, fun t => false⟩
def cmp_isNaN.ann : Ann := ⟨fun n => [], fun n => none, fun n => none⟩
/-- 'cmp.isNaN[string]' -/
def cmp_isNaN.sh (a0 : AV) (σ : Store) (Q : AEnd → Store → Prop) : Prop :=
  Do (aBin Go.Proofs.Try.prog .neq 9 a0 a0) fun t5 =>
  Q (.ret t5) σ
theorem cmp_isNaN.eq (a0 : AV) (σ : Store) (Q : AEnd → Store → Prop) : vc (semOf Go.Proofs.Try.prog cmp_isNaN.mark) Go.Proofs.Try.f130.ntmps cmp_isNaN.ann (bodyOf Go.Proofs.Try.f130) (endK [.tmp 2] Q) (argFr [a0]) σ = cmp_isNaN.sh a0 σ Q := by kernel_rfl
theorem cmp_isNaN.go {a0 : AV} {σ : Store} {Q : AEnd → Store → Prop} (h : cmp_isNaN.sh a0 σ Q) : ACalls Go.Proofs.Try.prog 130 [a0] σ Q :=
  acalls_of_eq [.tmp 2] Go.Proofs.Try.func130 (by kernel_rfl) (by kernel_rfl) (by kernel_rfl) (by kernel_rfl) (cmp_isNaN.eq a0 σ Q) h
def cmp_Compare.mark : Mark := ⟨fun t => Nat.beq t 8 || Nat.beq t 10, fun t => false, fun t => false, fun t => false, fun t => false⟩
def cmp_Compare.ann : Ann := ⟨fun n => [], fun n => none, fun n => none⟩
/-- 'cmp.Compare[string]' -/
def cmp_Compare.sh (a0 a1 : AV) (σ : Store) (Q : AEnd → Store → Prop) : Prop :=
  Do (aPureC Go.Proofs.Try.prog 130 [a0]) fun t8 =>
  Do (aPureC Go.Proofs.Try.prog 130 [a1]) fun t10 =>
  aCond t8
    (aCond t10
      (Q (.ret (.val (.int .i64 0))) σ)
      (Q (.ret (.val (.int .i64 (-1)))) σ))
    (aCond t10
    (Q (.ret (.val (.int .i64 1))) σ)
    (Do (aBin Go.Proofs.Try.prog .lss 9 a0 a1) fun t16 =>
  aCond t16
    (Q (.ret (.val (.int .i64 (-1)))) σ)
    (Do (aBin Go.Proofs.Try.prog .gtr 9 a0 a1) fun t19 =>
  aCond t19
    (Q (.ret (.val (.int .i64 1))) σ)
    (Q (.ret (.val (.int .i64 0))) σ))))
theorem cmp_Compare.eq (a0 a1 : AV) (σ : Store) (Q : AEnd → Store → Prop) : vc (semOf Go.Proofs.Try.prog cmp_Compare.mark) Go.Proofs.Try.f116.ntmps cmp_Compare.ann (bodyOf Go.Proofs.Try.f116) (endK [.tmp 4] Q) (argFr [a0, a1]) σ = cmp_Compare.sh a0 a1 σ Q := by kernel_rfl
theorem cmp_Compare.go {a0 a1 : AV} {σ : Store} {Q : AEnd → Store → Prop} (h : cmp_Compare.sh a0 a1 σ Q) : ACalls Go.Proofs.Try.prog 116 [a0, a1] σ Q :=
  acalls_of_eq [.tmp 4] Go.Proofs.Try.func116 (by kernel_rfl) (by kernel_rfl) (by kernel_rfl) (by kernel_rfl) (cmp_Compare.eq a0 a1 σ Q) h
def entry_byKey.mark : Mark := ⟨fun t => Nat.beq t 9, fun t => false, fun t => Nat.beq t 2 || Nat.beq t 3, fun t => Nat.beq t 6 || Nat.beq t 8, fun t => false⟩
def entry_byKey.ann : Ann := ⟨fun n => [], fun n => none, fun n => none⟩
/-- 'marlstone/entry.byKey' -/
def entry_byKey.sh (a0 a1 : AV) (σ : Store) (Q : AEnd → Store → Prop) : Prop :=
  Do (aFreeze ((a0 : AV)).cells) fun t2 =>
  Do (aFreeze ((a1 : AV)).cells) fun t3 =>
  Do (aFieldAddr 0 1 t2) fun t5 =>
  Do (loadF false 1 t5) fun t6 =>
  Do (aFieldAddr 0 1 t3) fun t7 =>
  Do (loadF false 1 t7) fun t8 =>
  Do (aPureC Go.Proofs.Try.prog 116 [t6, t8]) fun t9 =>
  Q (.ret t9) σ
theorem entry_byKey.eq (a0 a1 : AV) (σ : Store) (Q : AEnd → Store → Prop) : vc (semOf Go.Proofs.Try.prog entry_byKey.mark) Go.Proofs.Try.f94.ntmps entry_byKey.ann (bodyOf Go.Proofs.Try.f94) (endK [.tmp 4] Q) (argFr [a0, a1]) σ = entry_byKey.sh a0 a1 σ Q := by kernel_rfl
theorem entry_byKey.go {a0 a1 : AV} {σ : Store} {Q : AEnd → Store → Prop} (h : entry_byKey.sh a0 a1 σ Q) : ACalls Go.Proofs.Try.prog 94 [a0, a1] σ Q :=
  acalls_of_eq [.tmp 4] Go.Proofs.Try.func94 (by kernel_rfl) (by kernel_rfl) (by kernel_rfl) (by kernel_rfl) (entry_byKey.eq a0 a1 σ Q) h
theorem isNaN_ok (a : List UInt8) : aPure Go.Proofs.Try.prog 130 [S a] (B false) := by
  refine cmp_isNaN.go ?_
  unfold cmp_isNaN.sh
  repeat' (first | with_reducible apply Stp.go | with_reducible refine imp fun _ => ?_ | (with_reducible refine hyp ?_ ?_; first | assumption | exact leftT_mem (by assumption)) | (with_reducible refine need ?_ ?_; first | trivial | omega | exact ⟨by assumption, by omega⟩ | (simp only [List.length_append, List.length_cons, List.length_nil, List.length_map, List.length_take, List.length_drop, List.length_replicate, List.length_set]; omega)) | (with_reducible refine fact ?_ ?_; first | trivial | exact ⟨rfl, rfl⟩ | kernel_rfl) | with_reducible refine choT (by assumption) ?_ | with_reducible refine choF (by assumption) ?_ | with_reducible refine choF' (by assumption) ?_ | (with_reducible refine altT ?_ ?_; first | omega | (simp only [List.length_append, List.length_cons, List.length_nil, List.length_map, List.length_take, List.length_drop, List.length_replicate, List.length_set]; omega)) | with_reducible refine altF ?_ | with_reducible refine all fun _ => ?_ | with_reducible refine both ?_ ?_ | (with_reducible refine choT ?_ ?_; omega) | (with_reducible refine choF ?_ ?_; omega) | with_reducible refine cho (fun _ => ?_) (fun _ => ?_))
  simp
instance (a : List UInt8) : PC Go.Proofs.Try.prog 130 [S a] True (B false) := ⟨fun _ => PC.of (isNaN_ok a)⟩
theorem Compare_ok (a b : List UInt8) : aPure Go.Proofs.Try.prog 116 [S a, S b] (I .i64 (cmpK a b)) := by
  refine cmp_Compare.go ?_
  unfold cmp_Compare.sh
  repeat' (first | with_reducible apply Stp.go | with_reducible refine imp fun _ => ?_ | (with_reducible refine hyp ?_ ?_; first | assumption | exact leftT_mem (by assumption)) | (with_reducible refine need ?_ ?_; first | trivial | omega | exact ⟨by assumption, by omega⟩ | (simp only [List.length_append, List.length_cons, List.length_nil, List.length_map, List.length_take, List.length_drop, List.length_replicate, List.length_set]; omega)) | (with_reducible refine fact ?_ ?_; first | trivial | exact ⟨rfl, rfl⟩ | kernel_rfl) | with_reducible refine choT (by assumption) ?_ | with_reducible refine choF (by assumption) ?_ | with_reducible refine choF' (by assumption) ?_ | (with_reducible refine altT ?_ ?_; first | omega | (simp only [List.length_append, List.length_cons, List.length_nil, List.length_map, List.length_take, List.length_drop, List.length_replicate, List.length_set]; omega)) | with_reducible refine altF ?_ | with_reducible refine all fun _ => ?_ | with_reducible refine both ?_ ?_ | (with_reducible refine choT ?_ ?_; omega) | (with_reducible refine choF ?_ ?_; omega) | with_reducible refine cho (fun _ => ?_) (fun _ => ?_))
  all_goals (refine ⟨?_, by first | rfl | trivial⟩; simp_all [cmpK])
instance (a b : List UInt8) : PC Go.Proofs.Try.prog 116 [S a, S b] True (I .i64 (cmpK a b)) := ⟨fun _ => PC.of (Compare_ok a b)⟩
theorem byKey_ok (a b : En) : aPure Go.Proofs.Try.prog 94 [a.av, b.av] (I .i64 (cmpK a.key b.key)) := by
  refine entry_byKey.go ?_
  unfold entry_byKey.sh
  repeat' (first | with_reducible apply Stp.go | with_reducible refine imp fun _ => ?_ | (with_reducible refine hyp ?_ ?_; first | assumption | exact leftT_mem (by assumption)) | (with_reducible refine need ?_ ?_; first | trivial | omega | exact ⟨by assumption, by omega⟩ | (simp only [List.length_append, List.length_cons, List.length_nil, List.length_map, List.length_take, List.length_drop, List.length_replicate, List.length_set]; omega)) | (with_reducible refine fact ?_ ?_; first | trivial | exact ⟨rfl, rfl⟩ | kernel_rfl) | with_reducible refine choT (by assumption) ?_ | with_reducible refine choF (by assumption) ?_ | with_reducible refine choF' (by assumption) ?_ | (with_reducible refine altT ?_ ?_; first | omega | (simp only [List.length_append, List.length_cons, List.length_nil, List.length_map, List.length_take, List.length_drop, List.length_replicate, List.length_set]; omega)) | with_reducible refine altF ?_ | with_reducible refine all fun _ => ?_ | with_reducible refine both ?_ ?_ | (with_reducible refine choT ?_ ?_; omega) | (with_reducible refine choF ?_ ?_; omega) | with_reducible refine cho (fun _ => ?_) (fun _ => ?_))
  exact ⟨rfl, rfl⟩
instance (a b : En) : PC Go.Proofs.Try.prog 94 [a.av, b.av] True (I .i64 (cmpK a.key b.key)) := ⟨fun _ => PC.of (byKey_ok a b)⟩
def entry_Sorted.mark : Mark := ⟨fun t => Nat.beq t 23, fun t => false, fun t => false, fun t => Nat.beq t 17 || Nat.beq t 22, fun t => false⟩
def entry_Sorted.ann : Ann := ⟨fun n => bif Nat.beq n 2 then [0, 10, 11] else [], fun n => none, fun n => none⟩
/-- 'marlstone/entry.Sorted' -/
def entry_Sorted.sh (a0 : AV) (σ : Store) (Q : AEnd → Store → Prop) : Prop :=
  Do (aBuiltin Go.Proofs.Try.prog .len #[22] [a0]) fun t6 =>
  Do (aBuiltin Go.Proofs.Try.prog .max #[3, 3] [t6, (.val (.int .i64 1))]) fun t7 =>
  Do (aBin Go.Proofs.Try.prog .sub 3 t7 (.val (.int .i64 1))) fun t8 =>
  Do (aSlice .slice 4 a0 none (some t8) none) fun t9 =>
  Do (aBuiltin Go.Proofs.Try.prog .len #[22] [t9]) fun t10 =>
  aLoop (fun go vs σ =>
    At vs 0 fun s0 => At vs 1 fun s10 => At vs 2 fun s11 => Do (aBin Go.Proofs.Try.prog .lss 3 s11 s10) fun t12 =>
    aCond t12
      (Do (aIndexAddr .slice 4 s0 s11) fun t16 =>
    Do (loadF true 4 t16) fun t17 =>
    Do (aBin Go.Proofs.Try.prog .add 3 s11 (.val (.int .i64 1))) fun t20 =>
    Do (aIndexAddr .slice 4 s0 t20) fun t21 =>
    Do (loadF true 4 t21) fun t22 =>
    Do (aPureC Go.Proofs.Try.prog 94 [t17, t22]) fun t23 =>
    Do (aBin Go.Proofs.Try.prog .geq 3 t23 (.val (.int .i64 0))) fun t24 =>
    aCond t24
      (Q (.ret (.val (.bool false))) σ)
      (Do (aBin Go.Proofs.Try.prog .add 3 s11 (.val (.int .i64 1))) fun t25 =>
    go [s0, s10, t25] σ))
      (Q (.ret (.val (.bool true))) σ))
    [a0, t10, (.val (.int .i64 0))] σ
theorem entry_Sorted.eq (a0 : AV) (σ : Store) (Q : AEnd → Store → Prop) : vc (semOf Go.Proofs.Try.prog entry_Sorted.mark) Go.Proofs.Try.f53.ntmps entry_Sorted.ann (bodyOf Go.Proofs.Try.f53) (endK [.tmp 2] Q) (argFr [a0]) σ = entry_Sorted.sh a0 σ Q := by kernel_rfl
theorem entry_Sorted.go {a0 : AV} {σ : Store} {Q : AEnd → Store → Prop} (h : entry_Sorted.sh a0 σ Q) : ACalls Go.Proofs.Try.prog 53 [a0] σ Q :=
  acalls_of_eq [.tmp 2] Go.Proofs.Try.func53 (by kernel_rfl) (by kernel_rfl) (by kernel_rfl) (by kernel_rfl) (entry_Sorted.eq a0 σ Q) h
def ref03_Sorted.mark : Mark := ⟨fun t => false, fun t => false, fun t => false, fun t => Nat.beq t 15 || Nat.beq t 20, fun t => false⟩
def ref03_Sorted.ann : Ann := ⟨fun n => bif Nat.beq n 2 then [0, 3] else [], fun n => none, fun n => none⟩
theorem Sorted_ok (l : List En) (m : SM) (hl : l.length ≤ 1000000000000) : aPure Go.Proofs.Try.prog 53 [.lst 4 (l.map En.av) m] (B (sorted l)) := by
  refine entry_Sorted.go ?_
  unfold entry_Sorted.sh
  repeat' (first | with_reducible apply Stp.go | with_reducible refine imp fun _ => ?_ | (with_reducible refine hyp ?_ ?_; first | assumption | exact leftT_mem (by assumption)) | (with_reducible refine need ?_ ?_; first | trivial | omega | exact ⟨by assumption, by omega⟩ | (simp only [List.length_append, List.length_cons, List.length_nil, List.length_map, List.length_take, List.length_drop, List.length_replicate, List.length_set]; omega)) | (with_reducible refine fact ?_ ?_; first | trivial | exact ⟨rfl, rfl⟩ | kernel_rfl) | with_reducible refine choT (by assumption) ?_ | with_reducible refine choF (by assumption) ?_ | with_reducible refine choF' (by assumption) ?_ | (with_reducible refine altT ?_ ?_; first | omega | (simp only [List.length_append, List.length_cons, List.length_nil, List.length_map, List.length_take, List.length_drop, List.length_replicate, List.length_set]; omega)) | with_reducible refine altF ?_ | with_reducible refine all fun _ => ?_ | with_reducible refine both ?_ ?_ | (with_reducible refine choT ?_ ?_; omega) | (with_reducible refine choF ?_ ?_; omega) | with_reducible refine cho (fun _ => ?_) (fun _ => ?_))
  refine loopI (β := Nat) (fun i => i ≤ l.length - 1 ∧ sorted l = sorted (l.drop i)) (fun i => [.lst 4 (l.map En.av) m, I .i64 ((l.length - 1 : Nat) : Int), I .i64 (i : Nat)]) (fun _ => []) (fun i => l.length - i) 0 ⟨by omega, rfl⟩ ?_ ?_
  · have e : (l.take (max l.length 1 - 1)).length = l.length - 1 := by rw [List.length_take]; omega
    rw [e]
    exact Sub.refl _ _
  rintro i ⟨hi, hs⟩
  repeat' (first | with_reducible apply Stp.go | with_reducible refine imp fun _ => ?_ | (with_reducible refine hyp ?_ ?_; first | assumption | exact leftT_mem (by assumption)) | (with_reducible refine need ?_ ?_; first | trivial | omega | exact ⟨by assumption, by omega⟩ | (simp only [List.length_append, List.length_cons, List.length_nil, List.length_map, List.length_take, List.length_drop, List.length_replicate, List.length_set]; omega)) | (with_reducible refine fact ?_ ?_; first | trivial | exact ⟨rfl, rfl⟩ | kernel_rfl) | with_reducible refine choT (by assumption) ?_ | with_reducible refine choF (by assumption) ?_ | with_reducible refine choF' (by assumption) ?_ | (with_reducible refine altT ?_ ?_; first | omega | (simp only [List.length_append, List.length_cons, List.length_nil, List.length_map, List.length_take, List.length_drop, List.length_replicate, List.length_set]; omega)) | with_reducible refine altF ?_ | with_reducible refine all fun _ => ?_ | with_reducible refine both ?_ ?_ | (with_reducible refine choT ?_ ?_; omega) | (with_reducible refine choF ?_ ?_; omega) | with_reducible refine cho (fun _ => ?_) (fun _ => ?_))
  · rename_i h1 h
    rw [cmpK_neg] at h
    rw [hs, sorted_step (by omega), h]
    exact ⟨rfl, rfl⟩
  · rename_i h1 h
    rw [cmpK_neg, Bool.not_eq_false] at h
    refine again (i + 1) (by omega) ⟨by omega, ?_⟩ (Sub.refl _ _)
    rw [hs, sorted_step (by omega), h, Bool.true_and]
  · rw [hs, sorted_end (by omega)]
    exact ⟨rfl, rfl⟩
instance {a : AV} {l : List En} {m : SM} [h : IsL a En.av 4 l m] : PC Go.Proofs.Try.prog 53 [a] (l.length ≤ 1000000000000) (B (sorted l)) := ⟨fun hl => ⟨[.lst 4 (l.map En.av) m], ⟨h.sub, trivial⟩, Sorted_ok l m hl⟩⟩
end Go.Ab

/- Functions of layers 3 and 4: what is right and fit, what is the same; an entry's bytes. -/
set_option linter.unusedVariables false
set_option linter.unusedSimpArgs false
namespace Go.Ab
def ref03_Right.mark : Mark := ⟨fun t => false, fun t => false, fun t => Nat.beq t 1, fun t => Nat.beq t 4 || Nat.beq t 9 || Nat.beq t 15 || Nat.beq t 21 || Nat.beq t 25 || Nat.beq t 31 || Nat.beq t 36, fun t => false⟩
def ref03_Right.ann : Ann := ⟨fun n => [], fun n => none, fun n => none⟩
def slices_IndexFunc.mark : Mark := ⟨fun t => Nat.beq t 16, fun t => false, fun t => false, fun t => Nat.beq t 15, fun t => false⟩
def slices_IndexFunc.ann : Ann := ⟨fun n => bif Nat.beq n 2 then [0, 1, 7, 8] else [], fun n => none, fun n => none⟩
/-- 'slices.IndexFunc[[]marlstone/api.Entry,marlstone/api.Entry]' -/
def slices_IndexFunc.sh (a0 a1 : AV) (σ : Store) (Q : AEnd → Store → Prop) : Prop :=
  Do (aBuiltin Go.Proofs.Try.prog .len #[22] [a0]) fun t7 =>
  aLoop (fun go vs σ =>
    At vs 0 fun s0 => At vs 1 fun s1 => At vs 2 fun s7 => At vs 3 fun s8 => Do (aBin Go.Proofs.Try.prog .lss 3 s8 s7) fun t9 =>
    aCond t9
      (Do (aIndexAddr .slice 4 s0 s8) fun t14 =>
    Do (loadF true 4 t14) fun t15 =>
    Do (aPureV Go.Proofs.Try.prog s1 [t15]) fun t16 =>
    aCond t16
      (Q (.ret s8) σ)
      (Do (aBin Go.Proofs.Try.prog .add 3 s8 (.val (.int .i64 1))) fun t18 =>
    go [s0, s1, s7, t18] σ))
      (Q (.ret (.val (.int .i64 (-1)))) σ))
    [a0, a1, t7, (.val (.int .i64 0))] σ
theorem slices_IndexFunc.eq (a0 a1 : AV) (σ : Store) (Q : AEnd → Store → Prop) : vc (semOf Go.Proofs.Try.prog slices_IndexFunc.mark) Go.Proofs.Try.f96.ntmps slices_IndexFunc.ann (bodyOf Go.Proofs.Try.f96) (endK [.tmp 4] Q) (argFr [a0, a1]) σ = slices_IndexFunc.sh a0 a1 σ Q := by kernel_rfl
theorem slices_IndexFunc.go {a0 a1 : AV} {σ : Store} {Q : AEnd → Store → Prop} (h : slices_IndexFunc.sh a0 a1 σ Q) : ACalls Go.Proofs.Try.prog 96 [a0, a1] σ Q :=
  acalls_of_eq [.tmp 4] Go.Proofs.Try.func96 (by kernel_rfl) (by kernel_rfl) (by kernel_rfl) (by kernel_rfl) (slices_IndexFunc.eq a0 a1 σ Q) h
def slices_ContainsFunc.mark : Mark := ⟨fun t => Nat.beq t 7, fun t => false, fun t => false, fun t => false, fun t => false⟩
def slices_ContainsFunc.ann : Ann := ⟨fun n => [], fun n => none, fun n => none⟩
/-- 'slices.ContainsFunc[[]marlstone/api.Entry,marlstone/api.Entry]' -/
def slices_ContainsFunc.sh (a0 a1 : AV) (σ : Store) (Q : AEnd → Store → Prop) : Prop :=
  Do (aPureC Go.Proofs.Try.prog 96 [a0, a1]) fun t7 =>
  Do (aBin Go.Proofs.Try.prog .geq 3 t7 (.val (.int .i64 0))) fun t8 =>
  Q (.ret t8) σ
theorem slices_ContainsFunc.eq (a0 a1 : AV) (σ : Store) (Q : AEnd → Store → Prop) : vc (semOf Go.Proofs.Try.prog slices_ContainsFunc.mark) Go.Proofs.Try.f81.ntmps slices_ContainsFunc.ann (bodyOf Go.Proofs.Try.f81) (endK [.tmp 4] Q) (argFr [a0, a1]) σ = slices_ContainsFunc.sh a0 a1 σ Q := by kernel_rfl
theorem slices_ContainsFunc.go {a0 a1 : AV} {σ : Store} {Q : AEnd → Store → Prop} (h : slices_ContainsFunc.sh a0 a1 σ Q) : ACalls Go.Proofs.Try.prog 81 [a0, a1] σ Q :=
  acalls_of_eq [.tmp 4] Go.Proofs.Try.func81 (by kernel_rfl) (by kernel_rfl) (by kernel_rfl) (by kernel_rfl) (slices_ContainsFunc.eq a0 a1 σ Q) h
def ref04_Fit.mark : Mark := ⟨fun t => Nat.beq t 15 || Nat.beq t 28, fun t => false, fun t => false, fun t => Nat.beq t 27, fun t => false⟩
def ref04_Fit.ann : Ann := ⟨fun n => bif Nat.beq n 4 then [0, 3] else [], fun n => none, fun n => none⟩
/-- A function value that is told of one entry. -/
class Pred (P : Program) (g : AV) (p : outParam (En → Bool)) : Prop where
  h : ∀ e : En, ∃ f a b args1, calleeOf g = some (f, a, b) ∧ SubVs (a ++ [e.av] ++ b) args1 ∧ aPure P f args1 (B (p e))
theorem Pred.pure {P : Program} {g : AV} {p : En → Bool} (h : Pred P g p) (e : En) : aPureV P g [e.av] (B (p e)) := by
  obtain ⟨f, a, b, args1, h1, h2, h3⟩ := h.h e
  unfold aPureV
  rw [h1]
  exact .inl ⟨args1, h2, h3⟩
instance predV {f : FuncId} {u : En → Bool} [h : ∀ e : En, PC Go.Proofs.Try.prog f [e.av] True (B (u e))] : Pred Go.Proofs.Try.prog (.val (.func (.func f) #[] #[])) u := ⟨fun e => by
  obtain ⟨a1, h1, h2⟩ := (h e).ct trivial
  exact ⟨f, [], [], a1, rfl, by simpa using h1, h2⟩⟩
theorem IndexFunc_ok (l : List En) (m : SM) (hl : l.length ≤ 1000000000000) (g : AV) (p : En → Bool) (hg : Pred Go.Proofs.Try.prog g p) :
    aPure Go.Proofs.Try.prog 96 [.lst 4 (l.map En.av) m, g] (I .i64 (idx p l)) := by
  refine slices_IndexFunc.go ?_
  unfold slices_IndexFunc.sh
  have step : ∀ (e : En) (K : AV → Prop), K (B (p e)) → Do (aPureV Go.Proofs.Try.prog g [e.av]) K := fun e K hK => ⟨_, hg.pure e, hK⟩
  repeat' (first | with_reducible apply Stp.go | with_reducible refine imp fun _ => ?_ | (with_reducible refine hyp ?_ ?_; first | assumption | exact leftT_mem (by assumption)) | (with_reducible refine need ?_ ?_; first | trivial | omega | exact ⟨by assumption, by omega⟩ | (simp only [List.length_append, List.length_cons, List.length_nil, List.length_map, List.length_take, List.length_drop, List.length_replicate, List.length_set]; omega)) | (with_reducible refine fact ?_ ?_; first | trivial | exact ⟨rfl, rfl⟩ | kernel_rfl) | with_reducible refine choT (by assumption) ?_ | with_reducible refine choF (by assumption) ?_ | with_reducible refine choF' (by assumption) ?_ | (with_reducible refine altT ?_ ?_; first | omega | (simp only [List.length_append, List.length_cons, List.length_nil, List.length_map, List.length_take, List.length_drop, List.length_replicate, List.length_set]; omega)) | with_reducible refine altF ?_ | with_reducible refine all fun _ => ?_ | with_reducible refine both ?_ ?_ | (with_reducible refine choT ?_ ?_; omega) | (with_reducible refine choF ?_ ?_; omega) | with_reducible refine cho (fun _ => ?_) (fun _ => ?_))
  refine loopI (β := Nat) (fun i => i ≤ l.length ∧ idx p l = (if idx p (l.drop i) < 0 then -1 else idx p (l.drop i) + i)) (fun i => [.lst 4 (l.map En.av) m, g, I .i64 (l.length : Nat), I .i64 (i : Nat)]) (fun _ => []) (fun i => l.length - i) 0 ⟨by omega, ?_⟩ (Sub.refl _ _) ?_
  · have := idx_lt p l
    simp only [List.drop_zero]
    split <;> omega
  rintro i ⟨hi, hs⟩
  repeat' (first | with_reducible apply Stp.go | with_reducible refine imp fun _ => ?_ | (with_reducible refine hyp ?_ ?_; first | assumption | exact leftT_mem (by assumption)) | (with_reducible refine need ?_ ?_; first | trivial | omega | exact ⟨by assumption, by omega⟩ | (simp only [List.length_append, List.length_cons, List.length_nil, List.length_map, List.length_take, List.length_drop, List.length_replicate, List.length_set]; omega)) | (with_reducible refine fact ?_ ?_; first | trivial | exact ⟨rfl, rfl⟩ | kernel_rfl) | with_reducible refine choT (by assumption) ?_ | with_reducible refine choF (by assumption) ?_ | with_reducible refine choF' (by assumption) ?_ | (with_reducible refine altT ?_ ?_; first | omega | (simp only [List.length_append, List.length_cons, List.length_nil, List.length_map, List.length_take, List.length_drop, List.length_replicate, List.length_set]; omega)) | with_reducible refine altF ?_ | with_reducible refine all fun _ => ?_ | with_reducible refine both ?_ ?_ | (with_reducible refine choT ?_ ?_; omega) | (with_reducible refine choF ?_ ?_; omega) | with_reducible refine cho (fun _ => ?_) (fun _ => ?_))
  · refine step _ _ ?_
    rename_i h1
    repeat' (first | with_reducible apply Stp.go | with_reducible refine imp fun _ => ?_ | (with_reducible refine hyp ?_ ?_; first | assumption | exact leftT_mem (by assumption)) | (with_reducible refine need ?_ ?_; first | trivial | omega | exact ⟨by assumption, by omega⟩ | (simp only [List.length_append, List.length_cons, List.length_nil, List.length_map, List.length_take, List.length_drop, List.length_replicate, List.length_set]; omega)) | (with_reducible refine fact ?_ ?_; first | trivial | exact ⟨rfl, rfl⟩ | kernel_rfl) | with_reducible refine choT (by assumption) ?_ | with_reducible refine choF (by assumption) ?_ | with_reducible refine choF' (by assumption) ?_ | (with_reducible refine altT ?_ ?_; first | omega | (simp only [List.length_append, List.length_cons, List.length_nil, List.length_map, List.length_take, List.length_drop, List.length_replicate, List.length_set]; omega)) | with_reducible refine altF ?_ | with_reducible refine all fun _ => ?_ | with_reducible refine both ?_ ?_ | (with_reducible refine choT ?_ ?_; omega) | (with_reducible refine choF ?_ ?_; omega) | with_reducible refine cho (fun _ => ?_) (fun _ => ?_))
    · rename_i h
      rw [drop_cons (show i < l.length by omega)] at hs
      simp only [idx, h, if_true] at hs
      refine ⟨?_, rfl⟩
      rw [hs]
      simp
    · rename_i h
      refine again (i + 1) (by omega) ⟨by omega, ?_⟩ (Sub.refl _ _)
      rw [hs, drop_cons (show i < l.length by omega)]
      have := idx_lt p (l.drop (i + 1))
      simp only [idx, h, Bool.false_eq_true, if_false]
      split <;> split <;> rename_i h2 h3 <;> (try split at h2) <;> omega
  · have : l.drop i = [] := List.drop_of_length_le (by omega)
    rw [hs, this]
    exact ⟨rfl, rfl⟩
instance {a g : AV} {l : List En} {m : SM} {p : En → Bool} [h : IsL a En.av 4 l m] [hg : Pred Go.Proofs.Try.prog g p] : PC Go.Proofs.Try.prog 96 [a, g] (l.length ≤ 1000000000000) (I .i64 (idx p l)) :=
  ⟨fun hl => ⟨[.lst 4 (l.map En.av) m, g], ⟨h.sub, SubVs.refl _⟩, IndexFunc_ok l m hl g p hg⟩⟩
theorem ContainsFunc_ok (l : List En) (m : SM) (hl : l.length ≤ 1000000000000) (g : AV) (p : En → Bool) (hg : Pred Go.Proofs.Try.prog g p) :
    aPure Go.Proofs.Try.prog 81 [.lst 4 (l.map En.av) m, g] (B (l.any p)) := by
  refine slices_ContainsFunc.go ?_
  unfold slices_ContainsFunc.sh
  repeat' (first | with_reducible apply Stp.go | with_reducible refine imp fun _ => ?_ | (with_reducible refine hyp ?_ ?_; first | assumption | exact leftT_mem (by assumption)) | (with_reducible refine need ?_ ?_; first | trivial | omega | exact ⟨by assumption, by omega⟩ | (simp only [List.length_append, List.length_cons, List.length_nil, List.length_map, List.length_take, List.length_drop, List.length_replicate, List.length_set]; omega)) | (with_reducible refine fact ?_ ?_; first | trivial | exact ⟨rfl, rfl⟩ | kernel_rfl) | with_reducible refine choT (by assumption) ?_ | with_reducible refine choF (by assumption) ?_ | with_reducible refine choF' (by assumption) ?_ | (with_reducible refine altT ?_ ?_; first | omega | (simp only [List.length_append, List.length_cons, List.length_nil, List.length_map, List.length_take, List.length_drop, List.length_replicate, List.length_set]; omega)) | with_reducible refine altF ?_ | with_reducible refine all fun _ => ?_ | with_reducible refine both ?_ ?_ | (with_reducible refine choT ?_ ?_; omega) | (with_reducible refine choF ?_ ?_; omega) | with_reducible refine cho (fun _ => ?_) (fun _ => ?_))
  have e : decide (0 ≤ idx p l) = l.any p := by rw [Bool.eq_iff_iff]; simpa using idx_any p l
  rw [e]
  exact ⟨rfl, rfl⟩
instance {a g : AV} {l : List En} {m : SM} {p : En → Bool} [h : IsL a En.av 4 l m] [hg : Pred Go.Proofs.Try.prog g p] : PC Go.Proofs.Try.prog 81 [a, g] (l.length ≤ 1000000000000) (B (l.any p)) :=
  ⟨fun hl => ⟨[.lst 4 (l.map En.av) m, g], ⟨h.sub, SubVs.refl _⟩, ContainsFunc_ok l m hl g p hg⟩⟩
theorem all_right (l : List En) : (!l.any fun e => !right e) = l.all right := by
  rw [List.any_eq_not_all_not]
  simp
def ref03_Same.mark : Mark := ⟨fun t => false, fun t => false, fun t => false, fun t => Nat.beq t 20 || Nat.beq t 24, fun t => false⟩
def ref03_Same.ann : Ann := ⟨fun n => bif Nat.beq n 4 then [0, 1, 5] else [], fun n => none, fun n => none⟩
/-- 'marlstone/marlstoneref03.Same' -/
def ref03_Same.sh (a0 a1 : AV) (σ : Store) (Q : AEnd → Store → Prop) : Prop :=
  Do (aBuiltin Go.Proofs.Try.prog .len #[22] [a0]) fun t7 =>
  Do (aBuiltin Go.Proofs.Try.prog .len #[22] [a1]) fun t9 =>
  Do (aBin Go.Proofs.Try.prog .neq 3 t7 t9) fun t10 =>
  aCond t10
    (Q (.ret (.val (.bool false))) σ)
    (aLoop (fun go vs σ =>
    At vs 0 fun s0 => At vs 1 fun s1 => At vs 2 fun s5 => Do (aBuiltin Go.Proofs.Try.prog .len #[22] [s0]) fun t13 =>
    Do (aBin Go.Proofs.Try.prog .lss 3 s5 t13) fun t14 =>
    aCond t14
      (Do (aIndexAddr .slice 4 s0 s5) fun t19 =>
    Do (loadF true 4 t19) fun t20 =>
    Do (aIndexAddr .slice 4 s1 s5) fun t23 =>
    Do (loadF true 4 t23) fun t24 =>
    Do (aBin Go.Proofs.Try.prog .neq 54 t20 t24) fun t25 =>
    aCond t25
      (Q (.ret (.val (.bool false))) σ)
      (Do (aBin Go.Proofs.Try.prog .add 3 s5 (.val (.int .i64 1))) fun t16 =>
    go [s0, s1, t16] σ))
      (Q (.ret (.val (.bool true))) σ))
    [a0, a1, (.val (.int .i64 0))] σ)
theorem ref03_Same.eq (a0 a1 : AV) (σ : Store) (Q : AEnd → Store → Prop) : vc (semOf Go.Proofs.Try.prog ref03_Same.mark) Go.Proofs.Try.f28.ntmps ref03_Same.ann (bodyOf Go.Proofs.Try.f28) (endK [.tmp 4] Q) (argFr [a0, a1]) σ = ref03_Same.sh a0 a1 σ Q := by kernel_rfl
theorem ref03_Same.go {a0 a1 : AV} {σ : Store} {Q : AEnd → Store → Prop} (h : ref03_Same.sh a0 a1 σ Q) : ACalls Go.Proofs.Try.prog 28 [a0, a1] σ Q :=
  acalls_of_eq [.tmp 4] Go.Proofs.Try.func28 (by kernel_rfl) (by kernel_rfl) (by kernel_rfl) (by kernel_rfl) (ref03_Same.eq a0 a1 σ Q) h
theorem Same_ok (a b : List En) (m m' : SM) (ha : a.length ≤ 1000000000000) : aPure Go.Proofs.Try.prog 28 [.lst 4 (a.map En.av) m, .lst 4 (b.map En.av) m'] (B (decide (a = b))) := by
  refine ref03_Same.go ?_
  unfold ref03_Same.sh
  repeat' (first | with_reducible apply Stp.go | with_reducible refine imp fun _ => ?_ | (with_reducible refine hyp ?_ ?_; first | assumption | exact leftT_mem (by assumption)) | (with_reducible refine need ?_ ?_; first | trivial | omega | exact ⟨by assumption, by omega⟩ | (simp only [List.length_append, List.length_cons, List.length_nil, List.length_map, List.length_take, List.length_drop, List.length_replicate, List.length_set]; omega)) | (with_reducible refine fact ?_ ?_; first | trivial | exact ⟨rfl, rfl⟩ | kernel_rfl) | with_reducible refine choT (by assumption) ?_ | with_reducible refine choF (by assumption) ?_ | with_reducible refine choF' (by assumption) ?_ | (with_reducible refine altT ?_ ?_; first | omega | (simp only [List.length_append, List.length_cons, List.length_nil, List.length_map, List.length_take, List.length_drop, List.length_replicate, List.length_set]; omega)) | with_reducible refine altF ?_ | with_reducible refine all fun _ => ?_ | with_reducible refine both ?_ ?_ | (with_reducible refine choT ?_ ?_; omega) | (with_reducible refine choF ?_ ?_; omega) | with_reducible refine cho (fun _ => ?_) (fun _ => ?_))
  · rename_i h
    have hab : a.length = b.length := h
    refine loopI (β := Nat) (fun i => i ≤ a.length ∧ decide (a = b) = decide (a.drop i = b.drop i)) (fun i => [.lst 4 (a.map En.av) m, .lst 4 (b.map En.av) m', I .i64 (i : Nat)]) (fun _ => []) (fun i => a.length - i) 0 ⟨by omega, rfl⟩ (Sub.refl _ _) ?_
    rintro i ⟨hi, hs⟩
    repeat' (first | with_reducible apply Stp.go | with_reducible refine imp fun _ => ?_ | (with_reducible refine hyp ?_ ?_; first | assumption | exact leftT_mem (by assumption)) | (with_reducible refine need ?_ ?_; first | trivial | omega | exact ⟨by assumption, by omega⟩ | (simp only [List.length_append, List.length_cons, List.length_nil, List.length_map, List.length_take, List.length_drop, List.length_replicate, List.length_set]; omega)) | (with_reducible refine fact ?_ ?_; first | trivial | exact ⟨rfl, rfl⟩ | kernel_rfl) | with_reducible refine choT (by assumption) ?_ | with_reducible refine choF (by assumption) ?_ | with_reducible refine choF' (by assumption) ?_ | (with_reducible refine altT ?_ ?_; first | omega | (simp only [List.length_append, List.length_cons, List.length_nil, List.length_map, List.length_take, List.length_drop, List.length_replicate, List.length_set]; omega)) | with_reducible refine altF ?_ | with_reducible refine all fun _ => ?_ | with_reducible refine both ?_ ?_ | (with_reducible refine choT ?_ ?_; omega) | (with_reducible refine choF ?_ ?_; omega) | with_reducible refine cho (fun _ => ?_) (fun _ => ?_))
    · rename_i h1 h2
      refine again (i + 1) (by omega) ⟨by omega, ?_⟩ (Sub.refl _ _)
      rw [hs, drop_cons (show i < a.length by omega), drop_cons (show i < b.length by omega), h2]
      simp
    · rename_i h1 h2
      rw [hs, drop_cons (show i < a.length by omega), drop_cons (show i < b.length by omega)]
      refine ⟨?_, rfl⟩
      simp only [List.cons.injEq, eq_false h2, false_and, decide_false]
    · have e1 : a.drop i = [] := List.drop_of_length_le (by omega)
      have e2 : b.drop i = [] := List.drop_of_length_le (by omega)
      rw [hs, e1, e2]
      exact ⟨rfl, rfl⟩
  · rename_i h
    have : ¬ a = b := fun e => h (by rw [e])
    exact ⟨by simp [this], rfl⟩
instance {x y : AV} {a b : List En} {m m' : SM} [h : IsL x En.av 4 a m] [h' : IsL y En.av 4 b m'] : PC Go.Proofs.Try.prog 28 [x, y] (a.length ≤ 1000000000000) (B (decide (a = b))) := ⟨fun hl => ⟨[.lst 4 (a.map En.av) m, .lst 4 (b.map En.av) m'], ⟨h.sub, h'.sub, trivial⟩, Same_ok a b m m' hl⟩⟩
end Go.Ab

/- An entry's bytes; few entries. -/
set_option linter.unusedVariables false
set_option linter.unusedSimpArgs false
namespace Go.Ab
def entry_Bytes.mark : Mark := ⟨fun t => Nat.beq t 5, fun t => Nat.beq t 7, fun t => Nat.beq t 1, fun t => Nat.beq t 4 || Nat.beq t 9 || Nat.beq t 14 || Nat.beq t 18 || Nat.beq t 21 || Nat.beq t 25, fun t => false⟩
def entry_Bytes.ann : Ann := ⟨fun n => [], fun n => bif Nat.beq n 6 then some [1, 3] else none, fun n => none⟩
/-- 'marlstone/entry.Bytes' -/
def entry_Bytes.sh (a0 : AV) (σ : Store) (Q : AEnd → Store → Prop) : Prop :=
  Do (aFreeze ((a0 : AV)).cells) fun t1 =>
  Do (loadF true 4 t1) fun t4 =>
  Do (aPureC Go.Proofs.Try.prog 61 [t4]) fun t5 =>
  Do (aUn Go.Proofs.Try.prog .not t5) fun t6 =>
  aCond t6
    (Q (.ret (.val (.slice none 0 0))) σ)
    (aRowL 5 (mkE [.val (.int .u8 0)]) 1 1 [(0, (W8 0))] σ fun t7 σ =>
  aJoin (fun j =>
    Do (aFieldAddr 2 1 t1) fun t8 =>
    Do (loadF false 1 t8) fun t9 =>
    aCond t9
      (Do (aIndexAddr .slice 1 t7 (.val (.int .i64 0))) fun t11 =>
      storeA 1 t11 (W8 1) σ fun u σ_2 =>
      j [t1, t7] σ_2)
      (j [t1, t7] σ)) fun vs σ_1 =>
  At vs 0 fun s1 => At vs 1 fun s3 => Do (aFieldAddr 3 1 s1) fun t13 =>
  Do (loadF false 1 t13) fun t14 =>
  Do (fun x => aConvN 3 143 t14 x Go.Proofs.Try.prog) fun t15 =>
  Do (aFieldAddr 0 1 s1) fun t17 =>
  Do (loadF false 1 t17) fun t18 =>
  aCall Go.Proofs.Try.prog 102 [s3, t15] σ_1 (fun t16 σ_3 =>
  aCall Go.Proofs.Try.prog 101 [t16, t18] σ_3 (fun t19 σ_4 =>
  Do (aFieldAddr 2 1 s1) fun t20 =>
  Do (loadF false 1 t20) fun t21 =>
  Do (aUn Go.Proofs.Try.prog .not t21) fun t22 =>
  aCond t22
    (Do (aFieldAddr 1 1 s1) fun t24 =>
    Do (loadF false 1 t24) fun t25 =>
    aCall Go.Proofs.Try.prog 101 [t19, t25] σ_4 (fun t26 σ_5 =>
    Q (.ret t26) σ_5) (fun e σ_6 => Q (.pan e) σ_6))
    (Q (.ret t19) σ_4)) (fun e_1 σ_7 => Q (.pan e_1) σ_7)) (fun e_2 σ_8 => Q (.pan e_2) σ_8))
theorem entry_Bytes.eq (a0 : AV) (σ : Store) (Q : AEnd → Store → Prop) : vc (semOf Go.Proofs.Try.prog entry_Bytes.mark) Go.Proofs.Try.f63.ntmps entry_Bytes.ann (bodyOf Go.Proofs.Try.f63) (endK [.tmp 2] Q) (argFr [a0]) σ = entry_Bytes.sh a0 σ Q := by kernel_rfl
theorem entry_Bytes.go {a0 : AV} {σ : Store} {Q : AEnd → Store → Prop} (h : entry_Bytes.sh a0 σ Q) : ACalls Go.Proofs.Try.prog 63 [a0] σ Q :=
  acalls_of_eq [.tmp 2] Go.Proofs.Try.func63 (by kernel_rfl) (by kernel_rfl) (by kernel_rfl) (by kernel_rfl) (entry_Bytes.eq a0 σ Q) h
def ref03_Bytes.mark : Mark := ⟨fun t => Nat.beq t 5 || Nat.beq t 15 || Nat.beq t 18 || Nat.beq t 24 || Nat.beq t 27 || Nat.beq t 30, fun t => false, fun t => Nat.beq t 1, fun t => Nat.beq t 4 || Nat.beq t 9 || Nat.beq t 13 || Nat.beq t 17 || Nat.beq t 22 || Nat.beq t 26 || Nat.beq t 29, fun t => false⟩
def ref03_Bytes.ann : Ann := ⟨fun n => [], fun n => none, fun n => none⟩
theorem entry_Bytes_ok (e : En) : aPure Go.Proofs.Try.prog 63 [e.av] (.lst 1 ((enB e).map byt) .ro) := by
  refine ACalls.fin (entry_Bytes.go ?_)
  unfold entry_Bytes.sh
  repeat' (first | with_reducible apply Stp.go | with_reducible refine imp fun _ => ?_ | (with_reducible refine hyp ?_ ?_; first | assumption | exact leftT_mem (by assumption)) | (with_reducible refine need ?_ ?_; first | trivial | omega | exact ⟨by assumption, by omega⟩ | (simp only [List.length_append, List.length_cons, List.length_nil, List.length_map, List.length_take, List.length_drop, List.length_replicate, List.length_set]; omega)) | (with_reducible refine fact ?_ ?_; first | trivial | exact ⟨rfl, rfl⟩ | kernel_rfl) | with_reducible refine choT (by assumption) ?_ | with_reducible refine choF (by assumption) ?_ | with_reducible refine choF' (by assumption) ?_ | (with_reducible refine altT ?_ ?_; first | omega | (simp only [List.length_append, List.length_cons, List.length_nil, List.length_map, List.length_take, List.length_drop, List.length_replicate, List.length_set]; omega)) | with_reducible refine altF ?_ | with_reducible refine all fun _ => ?_ | with_reducible refine both ?_ ?_ | (with_reducible refine choT ?_ ?_; omega) | (with_reducible refine choF ?_ ?_; omega) | with_reducible refine cho (fun _ => ?_) (fun _ => ?_))
  · rename_i h v
    obtain ⟨k0, k1, k2, k3, k4, k5⟩ := right_bounds h
    have hp := put_len64 (v := e.seq.toNat) (by omega)
    have hp2 := put_len64 (v := e.key.length) (by omega)
    refine joinI (β := Unit) (fun _ => True) (fun _ => [.rptr e.cs, .own v 1]) (fun _ => [.row v 5 1 ([if e.del = true then (1 : UInt8) else 0].map byt) 0]) ?_ ?_
    · repeat' (first | with_reducible apply Stp.go | with_reducible refine imp fun _ => ?_ | (with_reducible refine hyp ?_ ?_; first | assumption | exact leftT_mem (by assumption)) | (with_reducible refine need ?_ ?_; first | trivial | omega | exact ⟨by assumption, by omega⟩ | (simp only [List.length_append, List.length_cons, List.length_nil, List.length_map, List.length_take, List.length_drop, List.length_replicate, List.length_set]; omega)) | (with_reducible refine fact ?_ ?_; first | trivial | exact ⟨rfl, rfl⟩ | kernel_rfl) | with_reducible refine choT (by assumption) ?_ | with_reducible refine choF (by assumption) ?_ | with_reducible refine choF' (by assumption) ?_ | (with_reducible refine altT ?_ ?_; first | omega | (simp only [List.length_append, List.length_cons, List.length_nil, List.length_map, List.length_take, List.length_drop, List.length_replicate, List.length_set]; omega)) | with_reducible refine altF ?_ | with_reducible refine all fun _ => ?_ | with_reducible refine both ?_ ?_ | (with_reducible refine choT ?_ ?_; omega) | (with_reducible refine choF ?_ ?_; omega) | with_reducible refine cho (fun _ => ?_) (fun _ => ?_))
      · rename_i hd
        refine meet () trivial ?_
        rw [if_pos hd]
        exact Sub.refl _ _
      · rename_i hd
        refine meet () trivial ?_
        rw [if_neg hd]
        exact Sub.refl _ _
    · intro _ _
      repeat' (first | with_reducible apply Stp.go | with_reducible refine imp fun _ => ?_ | (with_reducible refine hyp ?_ ?_; first | assumption | exact leftT_mem (by assumption)) | (with_reducible refine need ?_ ?_; first | trivial | omega | exact ⟨by assumption, by omega⟩ | (simp only [List.length_append, List.length_cons, List.length_nil, List.length_map, List.length_take, List.length_drop, List.length_replicate, List.length_set]; omega)) | (with_reducible refine fact ?_ ?_; first | trivial | exact ⟨rfl, rfl⟩ | kernel_rfl) | with_reducible refine choT (by assumption) ?_ | with_reducible refine choF (by assumption) ?_ | with_reducible refine choF' (by assumption) ?_ | (with_reducible refine altT ?_ ?_; first | omega | (simp only [List.length_append, List.length_cons, List.length_nil, List.length_map, List.length_take, List.length_drop, List.length_replicate, List.length_set]; omega)) | with_reducible refine altF ?_ | with_reducible refine all fun _ => ?_ | with_reducible refine both ?_ ?_ | (with_reducible refine choT ?_ ?_; omega) | (with_reducible refine choF ?_ ?_; omega) | with_reducible refine cho (fun _ => ?_) (fun _ => ?_))
      all_goals
        refine ⟨_, _, _, rfl, retOwn (Sub.refl _ _), ?_, rfl⟩
        simp_all [enB, enR]
  · rename_i h
    refine ⟨_, _, _, rfl, retNil byt (sz := 1) (by decide) (Sub.refl _ _), ?_, rfl⟩
    simp [enB, h]
instance (e : En) : PC Go.Proofs.Try.prog 63 [e.av] True (.lst 1 ((enB e).map byt) .ro) := ⟨fun _ => PC.of (entry_Bytes_ok e)⟩
end Go.Ab

/- An entry read from bytes. No program in sight. -/
set_option linter.unusedVariables false
set_option linter.unusedSimpArgs false
namespace Go.Ab
/-- An entry that stands at the front of bytes, and how many it takes. -/
def parseE (s : List UInt8) : Option (En × Nat) :=
  if s = [] ∨ 1 < (s.getD 0 0).toNat then none
  else if getO (s.drop 1) = false ∨ 1099511627776 < getV (s.drop 1) then none
  else if textO (s.drop (1 + getN (s.drop 1))) = false then none
  else if (s.getD 0 0).toNat = 1 then
    (if right ⟨textV (s.drop (1 + getN (s.drop 1))), [], true, getV (s.drop 1)⟩ = true then some (⟨textV (s.drop (1 + getN (s.drop 1))), [], true, getV (s.drop 1)⟩, 1 + getN (s.drop 1) + textN (s.drop (1 + getN (s.drop 1)))) else none)
  else if textO (s.drop (1 + getN (s.drop 1) + textN (s.drop (1 + getN (s.drop 1))))) = false then none
  else if right ⟨textV (s.drop (1 + getN (s.drop 1))), textV (s.drop (1 + getN (s.drop 1) + textN (s.drop (1 + getN (s.drop 1))))), false, getV (s.drop 1)⟩ = true then
    some (⟨textV (s.drop (1 + getN (s.drop 1))), textV (s.drop (1 + getN (s.drop 1) + textN (s.drop (1 + getN (s.drop 1))))), false, getV (s.drop 1)⟩, 1 + getN (s.drop 1) + textN (s.drop (1 + getN (s.drop 1))) + textN (s.drop (1 + getN (s.drop 1) + textN (s.drop (1 + getN (s.drop 1))))))
  else none
theorem right_min (k v : List UInt8) (d : Bool) (q : Nat) : right ⟨k, v, d, (min q 1099511627777 : Nat)⟩ = (decide (q ≤ 1099511627776) && right ⟨k, v, d, q⟩) := by
  by_cases h : q ≤ 1099511627776
  · rw [Nat.min_eq_left (by omega), decide_eq_true h, Bool.true_and]
  · rw [Nat.min_eq_right (by omega), decide_eq_false h, Bool.false_and]
    simp [right]
section parse
variable {s : List UInt8}
theorem parse_fail1 (h : (!getO (s.drop 1) || !textO (s.drop (1 + getN (s.drop 1)))) = true) : parseE s = none := by
  unfold parseE
  split
  · rfl
  · split
    · rfl
    · rename_i h1 h2
      have : getO (s.drop 1) = true := by
        cases hc : getO (s.drop 1) with
        | true => rfl
        | false => exact absurd (.inl hc) h2
      rw [this] at h
      rw [if_pos (by simpa using h)]
theorem parse_del (h0 : ¬ s.length = 0) (h1 : ¬ 1 < (s.getD 0 default).toNat) (hd : (s.getD 0 default).toNat = 1) (hw : ¬ (!getO (s.drop 1) || !textO (s.drop (1 + getN (s.drop 1)))) = true) :
    parseE s = if right ⟨textV (s.drop (1 + getN (s.drop 1))), [], decide ((s.getD 0 default).toNat = 1), (min (getV (s.drop 1)) 1099511627777 : Nat)⟩ = true then
      some (⟨textV (s.drop (1 + getN (s.drop 1))), [], decide ((s.getD 0 default).toNat = 1), (min (getV (s.drop 1)) 1099511627777 : Nat)⟩, 1 + getN (s.drop 1) + textN (s.drop (1 + getN (s.drop 1)))) else none := by
  have hs : ¬ s = [] := fun e => h0 (by rw [e]; rfl)
  have hw1 : getO (s.drop 1) = true := by cases hc : getO (s.drop 1) <;> simp_all
  have hw2 : textO (s.drop (1 + getN (s.drop 1))) = true := by cases hc : textO (s.drop (1 + getN (s.drop 1))) <;> simp_all
  have hd' : (s.getD 0 0).toNat = 1 := hd
  rw [decide_eq_true hd, right_min, parseE, if_neg (by rw [hd']; simp [hs]), hw1, hw2, if_neg (by decide : ¬ true = false), if_pos hd']
  by_cases hq : getV (s.drop 1) ≤ 1099511627776
  · rw [if_neg (fun hc => hc.elim (by decide) (by omega)), decide_eq_true hq, Bool.true_and, Nat.min_eq_left (by omega)]
  · rw [if_pos (.inr (by omega)), decide_eq_false hq, Bool.false_and, if_neg (by decide)]
theorem parse_fail2 (hd : ¬ (s.getD 0 default).toNat = 1) (h : (!getO (s.drop 1) || !textO (s.drop (1 + getN (s.drop 1))) || !textO (s.drop (1 + getN (s.drop 1) + textN (s.drop (1 + getN (s.drop 1)))))) = true) : parseE s = none := by
  cases hw : (!getO (s.drop 1) || !textO (s.drop (1 + getN (s.drop 1)))) with
  | true => exact parse_fail1 hw
  | false =>
    rw [hw, Bool.false_or] at h
    unfold parseE
    split
    · rfl
    · split
      · rfl
      · split
        · rfl
        · have hd' : ¬ (s.getD 0 0).toNat = 1 := hd
          rw [if_neg hd', if_pos (by simpa using h)]
theorem parse_val (h0 : ¬ s.length = 0) (h1 : ¬ 1 < (s.getD 0 default).toNat) (hd : ¬ (s.getD 0 default).toNat = 1) (hw : ¬ (!getO (s.drop 1) || !textO (s.drop (1 + getN (s.drop 1))) || !textO (s.drop (1 + getN (s.drop 1) + textN (s.drop (1 + getN (s.drop 1)))))) = true) :
    parseE s = if right ⟨textV (s.drop (1 + getN (s.drop 1))), textV (s.drop (1 + getN (s.drop 1) + textN (s.drop (1 + getN (s.drop 1))))), decide ((s.getD 0 default).toNat = 1), (min (getV (s.drop 1)) 1099511627777 : Nat)⟩ = true then
      some (⟨textV (s.drop (1 + getN (s.drop 1))), textV (s.drop (1 + getN (s.drop 1) + textN (s.drop (1 + getN (s.drop 1))))), decide ((s.getD 0 default).toNat = 1), (min (getV (s.drop 1)) 1099511627777 : Nat)⟩, 1 + getN (s.drop 1) + textN (s.drop (1 + getN (s.drop 1))) + textN (s.drop (1 + getN (s.drop 1) + textN (s.drop (1 + getN (s.drop 1)))))) else none := by
  have hs : ¬ s = [] := fun e => h0 (by rw [e]; rfl)
  have hw1 : getO (s.drop 1) = true := by cases hc : getO (s.drop 1) <;> simp_all
  have hw2 : textO (s.drop (1 + getN (s.drop 1))) = true := by cases hc : textO (s.drop (1 + getN (s.drop 1))) <;> simp_all
  have hw3 : textO (s.drop (1 + getN (s.drop 1) + textN (s.drop (1 + getN (s.drop 1))))) = true := by cases hc : textO (s.drop (1 + getN (s.drop 1) + textN (s.drop (1 + getN (s.drop 1))))) <;> simp_all
  have hd' : ¬ (s.getD 0 0).toNat = 1 := hd
  have h1' : ¬ 1 < (s.getD 0 0).toNat := h1
  rw [decide_eq_false hd, right_min, parseE, if_neg (by simp only [hs, false_or]; exact h1'), hw1, hw2, hw3, if_neg (by decide : ¬ true = false), if_neg hd', if_neg (by decide : ¬ true = false)]
  by_cases hq : getV (s.drop 1) ≤ 1099511627776
  · rw [if_neg (fun hc => hc.elim (by decide) (by omega)), decide_eq_true hq, Bool.true_and, Nat.min_eq_left (by omega)]
  · rw [if_pos (.inr (by omega)), decide_eq_false hq, Bool.false_and, if_neg (by decide)]
end parse
def parseV (s : List UInt8) : En := ((parseE s).map (·.1)).getD En.zero
def parseN (s : List UInt8) : Nat := ((parseE s).map (·.2)).getD 0
def parseX (s : List UInt8) : Int := if (parseE s).isSome = true then 0 else 2
end Go.Ab

/- An entry read is the entry written. No program in sight. -/
set_option linter.unusedVariables false
set_option linter.unusedSimpArgs false
namespace Go.Ab
theorem right_b {e : En} (h : right e = true) : 1 ≤ e.key.length ∧ e.key.length ≤ 128 ∧ e.val.length ≤ 1024 ∧ (e.del = true → e.val = []) ∧ 1 ≤ e.seq ∧ e.seq ≤ 1099511627776 := by
  simp [right] at h
  obtain ⟨⟨⟨⟨⟨h1, h2⟩, h3⟩, h4⟩, h5⟩, h6⟩ := h
  have : 1 ≤ e.key.length := List.length_pos_iff.2 h1
  exact ⟨this, by omega, by omega, fun hd => h4.resolve_left (by simp [hd]), h5, h6⟩
theorem parse_put (e : En) (he : right e = true) (rest : List UInt8) : parseE (enR e ++ rest) = some (e, (enR e).length) := by
  obtain ⟨k1, k2, k3, k4, k5, k6⟩ := right_b he
  obtain ⟨key, val, del, seq⟩ := e
  dsimp only at k1 k2 k3 k4 k5 k6
  obtain ⟨q, rfl⟩ : ∃ q : Nat, seq = q := ⟨seq.toNat, by omega⟩
  cases del with
  | true =>
    have hv : val = [] := k4 rfl
    subst hv
    have es : enR ⟨key, [], true, q⟩ ++ rest = 1 :: (put q ++ (put key.length ++ key ++ rest)) := by simp [enR]
    have el : (enR ⟨key, [], true, q⟩).length = 1 + (put q).length + ((put key.length).length + key.length) := by simp [enR]; omega
    have g := getG_put q (put key.length ++ key ++ rest) (by omega)
    have t := textG_put key rest (by omega)
    have gV : getV (put q ++ (put key.length ++ key ++ rest)) = q := by simp only [getV, g]; rfl
    have gN : getN (put q ++ (put key.length ++ key ++ rest)) = (put q).length := by simp only [getN, g]; rfl
    have gO : getO (put q ++ (put key.length ++ key ++ rest)) = true := by simp only [getO, g]; rfl
    have tV : textV (put key.length ++ key ++ rest) = key := by simp only [textV, t]; rfl
    have tN : textN (put key.length ++ key ++ rest) = (put key.length).length + key.length := by simp only [textN, t]; rfl
    have tO : textO (put key.length ++ key ++ rest) = true := by simp only [textO, t]; rfl
    have d1 : ((1 : UInt8) :: (put q ++ (put key.length ++ key ++ rest))).drop 1 = put q ++ (put key.length ++ key ++ rest) := rfl
    have d2 : ((1 : UInt8) :: (put q ++ (put key.length ++ key ++ rest))).drop (1 + (put q).length) = put key.length ++ key ++ rest := by
      rw [Nat.add_comm, List.drop_succ_cons, List.drop_left]
    rw [es, parseE, if_neg (by simp), d1, gO, gV, if_neg (fun hc => hc.elim (by decide) (by omega)), gN, d2, tO, if_neg (by decide), if_pos (by rfl), tV, if_pos he, tN, el]
  | false =>
    have es : enR ⟨key, val, false, q⟩ ++ rest = 0 :: (put q ++ (put key.length ++ key ++ (put val.length ++ val ++ rest))) := by simp [enR]
    have el : (enR ⟨key, val, false, q⟩).length = 1 + (put q).length + ((put key.length).length + key.length) + ((put val.length).length + val.length) := by simp [enR]; omega
    obtain ⟨r, hr⟩ : ∃ r, r = put val.length ++ val ++ rest := ⟨_, rfl⟩
    have t2 := textG_put val rest (by omega)
    rw [← hr] at t2 es
    have g := getG_put q (put key.length ++ key ++ r) (by omega)
    have t := textG_put key r (by omega)
    have gV : getV (put q ++ (put key.length ++ key ++ r)) = q := by simp only [getV, g]; rfl
    have gN : getN (put q ++ (put key.length ++ key ++ r)) = (put q).length := by simp only [getN, g]; rfl
    have gO : getO (put q ++ (put key.length ++ key ++ r)) = true := by simp only [getO, g]; rfl
    have tV : textV (put key.length ++ key ++ r) = key := by simp only [textV, t]; rfl
    have tN : textN (put key.length ++ key ++ r) = (put key.length).length + key.length := by simp only [textN, t]; rfl
    have tO : textO (put key.length ++ key ++ r) = true := by simp only [textO, t]; rfl
    have uV : textV r = val := by simp only [textV, t2]; rfl
    have uN : textN r = (put val.length).length + val.length := by simp only [textN, t2]; rfl
    have uO : textO r = true := by simp only [textO, t2]; rfl
    have d1 : ((0 : UInt8) :: (put q ++ (put key.length ++ key ++ r))).drop 1 = put q ++ (put key.length ++ key ++ r) := rfl
    have d2 : ((0 : UInt8) :: (put q ++ (put key.length ++ key ++ r))).drop (1 + (put q).length) = put key.length ++ key ++ r := by
      rw [Nat.add_comm, List.drop_succ_cons, List.drop_left]
    have d3 : ((0 : UInt8) :: (put q ++ (put key.length ++ key ++ r))).drop (1 + (put q).length + ((put key.length).length + key.length)) = r := by
      rw [← List.drop_drop, d2, ← List.length_append, List.drop_left]
    rw [es, parseE, if_neg (by simp), d1, gO, gV, if_neg (fun hc => hc.elim (by decide) (by omega)), gN, d2, tO, if_neg (by decide), if_neg (by rw [List.getD_cons_zero]; decide), tN, d3, uO, if_neg (by decide), tV, uV, if_pos he, uN, el]
theorem enB_nil {e : En} (h : ¬ right e = true) : enB e = [] := by unfold enB; rw [if_neg h]
theorem enB_right {e : En} (h : right e = true) : enB e = enR e := by unfold enB; rw [if_pos h]
theorem enR_length {e : En} (he : right e = true) : 1 ≤ (enR e).length ∧ (enR e).length ≤ 1200 := by
  obtain ⟨k1, k2, k3, k4, k5, k6⟩ := right_b he
  have p1 := put_len64 (v := e.seq.toNat) (by omega)
  have p2 := put_len64 (v := e.key.length) (by omega)
  have p3 := put_len64 (v := e.val.length) (by omega)
  unfold enR
  split <;> simp only [List.length_append, List.length_cons, List.length_nil] <;> omega
theorem enB_length (e : En) : (enB e).length ≤ 1200 := by
  by_cases h : right e = true
  · rw [enB_right h]; exact (enR_length h).2
  · rw [enB_nil h]; simp
end Go.Ab

/- What is fit for a table; its leaves. -/
set_option linter.unusedVariables false
set_option linter.unusedSimpArgs false
namespace Go.Ab
def table_Fit_1.mark : Mark := ⟨fun t => Nat.beq t 4, fun t => false, fun t => Nat.beq t 1, fun t => Nat.beq t 3, fun t => false⟩
def table_Fit_1.ann : Ann := ⟨fun n => [], fun n => none, fun n => none⟩
/-- 'marlstone/table.Fit$1' -/
def table_Fit_1.sh (a0 : AV) (σ : Store) (Q : AEnd → Store → Prop) : Prop :=
  Do (aFreeze ((a0 : AV)).cells) fun t1 =>
  Do (loadF true 4 t1) fun t3 =>
  Do (aPureC Go.Proofs.Try.prog 61 [t3]) fun t4 =>
  Do (aUn Go.Proofs.Try.prog .not t4) fun t5 =>
  Q (.ret t5) σ
theorem table_Fit_1.eq (a0 : AV) (σ : Store) (Q : AEnd → Store → Prop) : vc (semOf Go.Proofs.Try.prog table_Fit_1.mark) Go.Proofs.Try.f82.ntmps table_Fit_1.ann (bodyOf Go.Proofs.Try.f82) (endK [.tmp 2] Q) (argFr [a0]) σ = table_Fit_1.sh a0 σ Q := by kernel_rfl
theorem table_Fit_1.go {a0 : AV} {σ : Store} {Q : AEnd → Store → Prop} (h : table_Fit_1.sh a0 σ Q) : ACalls Go.Proofs.Try.prog 82 [a0] σ Q :=
  acalls_of_eq [.tmp 2] Go.Proofs.Try.func82 (by kernel_rfl) (by kernel_rfl) (by kernel_rfl) (by kernel_rfl) (table_Fit_1.eq a0 σ Q) h
def table_Fit.mark : Mark := ⟨fun t => Nat.beq t 13 || Nat.beq t 17, fun t => false, fun t => false, fun t => false, fun t => false⟩
def table_Fit.ann : Ann := ⟨fun n => [], fun n => none, fun n => none⟩
/-- 'marlstone/table.Fit' -/
def table_Fit.sh (a0 : AV) (σ : Store) (Q : AEnd → Store → Prop) : Prop :=
  Do (aBuiltin Go.Proofs.Try.prog .len #[22] [a0]) fun t4 =>
  Do (aBin Go.Proofs.Try.prog .gtr 3 t4 (.val (.int .i64 0))) fun t5 =>
  Do (aGuard t5 true (aIs a0)) fun t7 =>
  Do (aGuard t5 true (aBuiltin Go.Proofs.Try.prog .len #[22] [t7])) fun t8 =>
  Do (aGuard t5 true (aBin Go.Proofs.Try.prog .leq 3 t8 (.val (.int .i64 64)))) fun t9 =>
  Do (aPick t5 t9 (.val (.bool false))) fun t10 =>
  Do (aGuard t10 true (aIs a0)) fun t12 =>
  Do (aGuard t10 true (aPureC Go.Proofs.Try.prog 53 [t12])) fun t13 =>
  Do (aPick t10 t13 (.val (.bool false))) fun t14 =>
  Do (aGuard t14 true (aIs a0)) fun t16 =>
  Do (aGuard t14 true (aPureC Go.Proofs.Try.prog 81 [t16, (.val (.func (.func 82) #[] #[]))])) fun t17 =>
  Do (aGuard t14 true (aUn Go.Proofs.Try.prog .not t17)) fun t18 =>
  Do (aPick t14 t18 (.val (.bool false))) fun t19 =>
  Q (.ret t19) σ
theorem table_Fit.eq (a0 : AV) (σ : Store) (Q : AEnd → Store → Prop) : vc (semOf Go.Proofs.Try.prog table_Fit.mark) Go.Proofs.Try.f36.ntmps table_Fit.ann (bodyOf Go.Proofs.Try.f36) (endK [.tmp 2] Q) (argFr [a0]) σ = table_Fit.sh a0 σ Q := by kernel_rfl
theorem table_Fit.go {a0 : AV} {σ : Store} {Q : AEnd → Store → Prop} (h : table_Fit.sh a0 σ Q) : ACalls Go.Proofs.Try.prog 36 [a0] σ Q :=
  acalls_of_eq [.tmp 2] Go.Proofs.Try.func36 (by kernel_rfl) (by kernel_rfl) (by kernel_rfl) (by kernel_rfl) (table_Fit.eq a0 σ Q) h
def table_Leaves.mark : Mark := ⟨fun t => Nat.beq t 14, fun t => false, fun t => false, fun t => Nat.beq t 11, fun t => false⟩
def table_Leaves.ann : Ann := ⟨fun n => bif Nat.beq n 3 then [3, 6, 7, 8] else [], fun n => none, fun n => none⟩
/-- 'marlstone/table.Leaves' -/
def table_Leaves.sh (a0 : AV) (σ : Store) (Q : AEnd → Store → Prop) : Prop :=
  Do (aBuiltin Go.Proofs.Try.prog .len #[22] [a0]) fun t7 =>
  aLoop (fun go vs σ =>
    At vs 0 fun s3 => At vs 1 fun s6 => At vs 2 fun s7 => At vs 3 fun s8 => Do (aBin Go.Proofs.Try.prog .lss 3 s8 s7) fun t9 =>
    aCond t9
      (Do (aIndexAddr .slice 4 s6 s8) fun t10 =>
    Do (loadF true 4 t10) fun t11 =>
    aNewVar 54 [.val (.string ⟨#[]⟩), .val (.string ⟨#[]⟩), .val (.bool false), .val (.int .i64 0)] σ fun t5 σ_1 =>
    storeA 4 t5 t11 σ_1 fun u σ_2 =>
    Do (loadA true 4 t5 σ_2) fun t13 =>
    Do (aPureC Go.Proofs.Try.prog 63 [t13]) fun t14 =>
    Do (aSlLit (mkE [.val (.slice none 0 0)]) 1 1 [(0, t14)]) fun t15 =>
    aAppend 27 1 24 s3 t15 σ_2 (subK fun t16 σ_3 =>
    Do (aBin Go.Proofs.Try.prog .add 3 s8 (.val (.int .i64 1))) fun t17 =>
    go [t16, s6, s7, t17] σ_3))
      (Q (.ret s3) σ))
    [(.val (.slice none 0 0)), a0, t7, (.val (.int .i64 0))] σ
theorem table_Leaves.eq (a0 : AV) (σ : Store) (Q : AEnd → Store → Prop) : vc (semOf Go.Proofs.Try.prog table_Leaves.mark) Go.Proofs.Try.f32.ntmps table_Leaves.ann (bodyOf Go.Proofs.Try.f32) (endK [.tmp 2] Q) (argFr [a0]) σ = table_Leaves.sh a0 σ Q := by kernel_rfl
theorem table_Leaves.go {a0 : AV} {σ : Store} {Q : AEnd → Store → Prop} (h : table_Leaves.sh a0 σ Q) : ACalls Go.Proofs.Try.prog 32 [a0] σ Q :=
  acalls_of_eq [.tmp 2] Go.Proofs.Try.func32 (by kernel_rfl) (by kernel_rfl) (by kernel_rfl) (by kernel_rfl) (table_Leaves.eq a0 σ Q) h
theorem tfit1_ok (e : En) : aPure Go.Proofs.Try.prog 82 [e.av] (B (!right e)) := by
  refine table_Fit_1.go ?_
  unfold table_Fit_1.sh
  repeat' (first | with_reducible apply Stp.go | with_reducible refine imp fun _ => ?_ | (with_reducible refine hyp ?_ ?_; first | assumption | exact leftT_mem (by assumption)) | (with_reducible refine need ?_ ?_; first | trivial | omega | exact ⟨by assumption, by omega⟩ | (simp only [List.length_append, List.length_cons, List.length_nil, List.length_map, List.length_take, List.length_drop, List.length_replicate, List.length_set]; omega)) | (with_reducible refine fact ?_ ?_; first | trivial | exact ⟨rfl, rfl⟩ | kernel_rfl) | with_reducible refine choT (by assumption) ?_ | with_reducible refine choF (by assumption) ?_ | with_reducible refine choF' (by assumption) ?_ | (with_reducible refine altT ?_ ?_; first | omega | (simp only [List.length_append, List.length_cons, List.length_nil, List.length_map, List.length_take, List.length_drop, List.length_replicate, List.length_set]; omega)) | with_reducible refine altF ?_ | with_reducible refine all fun _ => ?_ | with_reducible refine both ?_ ?_ | (with_reducible refine choT ?_ ?_; omega) | (with_reducible refine choF ?_ ?_; omega) | with_reducible refine cho (fun _ => ?_) (fun _ => ?_))
  exact ⟨rfl, rfl⟩
instance (e : En) : PC Go.Proofs.Try.prog 82 [e.av] True (B (!right e)) := ⟨fun _ => PC.of (tfit1_ok e)⟩
theorem tFit_ok (l : List En) (m : SM) (hl : l.length ≤ 1000000000000) : aPure Go.Proofs.Try.prog 36 [.lst 4 (l.map En.av) m] (B (fit l)) := by
  refine table_Fit.go ?_
  unfold table_Fit.sh
  repeat' (first | with_reducible apply Stp.go | with_reducible refine imp fun _ => ?_ | (with_reducible refine hyp ?_ ?_; first | assumption | exact leftT_mem (by assumption)) | (with_reducible refine need ?_ ?_; first | trivial | omega | exact ⟨by assumption, by omega⟩ | (simp only [List.length_append, List.length_cons, List.length_nil, List.length_map, List.length_take, List.length_drop, List.length_replicate, List.length_set]; omega)) | (with_reducible refine fact ?_ ?_; first | trivial | exact ⟨rfl, rfl⟩ | kernel_rfl) | with_reducible refine choT (by assumption) ?_ | with_reducible refine choF (by assumption) ?_ | with_reducible refine choF' (by assumption) ?_ | (with_reducible refine altT ?_ ?_; first | omega | (simp only [List.length_append, List.length_cons, List.length_nil, List.length_map, List.length_take, List.length_drop, List.length_replicate, List.length_set]; omega)) | with_reducible refine altF ?_ | with_reducible refine all fun _ => ?_ | with_reducible refine both ?_ ?_ | (with_reducible refine choT ?_ ?_; omega) | (with_reducible refine choF ?_ ?_; omega) | with_reducible refine cho (fun _ => ?_) (fun _ => ?_))
  · rename_i h1 h2 h
    refine ⟨?_, rfl⟩
    rw [all_right]
    unfold fit
    rw [h, decide_eq_true (show 0 < l.length by omega), decide_eq_true (show l.length ≤ 64 by omega)]
    simp
  · rename_i h1 h2 h
    refine ⟨?_, rfl⟩
    simp [fit, h]
  · rename_i h1 h2
    refine ⟨?_, rfl⟩
    simp [fit, h2]
  · rename_i h1
    refine ⟨?_, rfl⟩
    have : l.length = 0 := by omega
    simp [fit, this]
instance {a : AV} {l : List En} {m : SM} [h : IsL a En.av 4 l m] : PC Go.Proofs.Try.prog 36 [a] (l.length ≤ 1000000000000) (B (fit l)) := ⟨fun hl => ⟨[.lst 4 (l.map En.av) m], ⟨h.sub, trivial⟩, tFit_ok l m hl⟩⟩
instance : ElemF [.val (.slice none 0 0)] (List UInt8) bl := ⟨trivial⟩
abbrev LfT : TypeId := 27
theorem Leaves_ok (l : List En) (m : SM) (hl : l.length ≤ 1000000) : aPure Go.Proofs.Try.prog 32 [.lst 4 (l.map En.av) m] (.lst 1 ((l.map enB).map bl) .ro) := by
  refine ACalls.fin (table_Leaves.go ?_)
  unfold table_Leaves.sh
  repeat' (first | with_reducible apply Stp.go | with_reducible refine imp fun _ => ?_ | (with_reducible refine hyp ?_ ?_; first | assumption | exact leftT_mem (by assumption)) | (with_reducible refine need ?_ ?_; first | trivial | omega | exact ⟨by assumption, by omega⟩ | (simp only [List.length_append, List.length_cons, List.length_nil, List.length_map, List.length_take, List.length_drop, List.length_replicate, List.length_set]; omega)) | (with_reducible refine fact ?_ ?_; first | trivial | exact ⟨rfl, rfl⟩ | kernel_rfl) | with_reducible refine choT (by assumption) ?_ | with_reducible refine choF (by assumption) ?_ | with_reducible refine choF' (by assumption) ?_ | (with_reducible refine altT ?_ ?_; first | omega | (simp only [List.length_append, List.length_cons, List.length_nil, List.length_map, List.length_take, List.length_drop, List.length_replicate, List.length_set]; omega)) | with_reducible refine altF ?_ | with_reducible refine all fun _ => ?_ | with_reducible refine both ?_ ?_ | (with_reducible refine choT ?_ ?_; omega) | (with_reducible refine choF ?_ ?_; omega) | with_reducible refine cho (fun _ => ?_) (fun _ => ?_))
  refine loopI (β := Nat × Value) (fun x => x.1 ≤ l.length) (fun x => [.own x.2 ((l.take x.1).map enB).length, .lst 4 (l.map En.av) m, I .i64 (l.length : Nat), I .i64 (x.1 : Nat)]) (fun x => [.row x.2 LfT 1 (((l.take x.1).map enB).map bl) 0]) (fun x => l.length - x.1) (0, .slice none 0 0) (Nat.zero_le _) (Sub.nil_own LfT (sz := 1) (by decide) [] [] [.lst 4 (l.map En.av) m, I .i64 (l.length : Nat), I .i64 ((0 : Nat) : Int)]) ?_
  rintro ⟨i, v⟩ h1
  dsimp only at h1 ⊢
  by_cases hi : i < l.length
  · have hk : ((l.take i).map enB).length ≤ l.length := by simp; omega
    have e : (l.take (i + 1)).map enB = (l.take i).map enB ++ [enB (l.getD i default)] := by rw [take_succ_d (by omega), List.map_append]; rfl
    repeat' (first | with_reducible apply Stp.go | with_reducible refine imp fun _ => ?_ | (with_reducible refine hyp ?_ ?_; first | assumption | exact leftT_mem (by assumption)) | (with_reducible refine need ?_ ?_; first | trivial | omega | exact ⟨by assumption, by omega⟩ | (simp only [List.length_append, List.length_cons, List.length_nil, List.length_map, List.length_take, List.length_drop, List.length_replicate, List.length_set]; omega)) | (with_reducible refine fact ?_ ?_; first | trivial | exact ⟨rfl, rfl⟩ | kernel_rfl) | with_reducible refine choT (by assumption) ?_ | with_reducible refine choF (by assumption) ?_ | with_reducible refine choF' (by assumption) ?_ | (with_reducible refine altT ?_ ?_; first | omega | (simp only [List.length_append, List.length_cons, List.length_nil, List.length_map, List.length_take, List.length_drop, List.length_replicate, List.length_set]; omega)) | with_reducible refine altF ?_ | with_reducible refine all fun _ => ?_ | with_reducible refine both ?_ ?_ | (with_reducible refine choT ?_ ?_; omega) | (with_reducible refine choF ?_ ?_; omega) | with_reducible refine cho (fun _ => ?_) (fun _ => ?_))
    rename_i w
    refine again (i + 1, w) (by dsimp only; omega) (by dsimp only; omega) ?_
    dsimp only
    rw [e]
    exact Sub.drop_ (List.sublist_cons_self _ _) _
  · have e1 : i = l.length := by omega
    subst e1
    rw [List.take_length]
    repeat' (first | with_reducible apply Stp.go | with_reducible refine imp fun _ => ?_ | (with_reducible refine hyp ?_ ?_; first | assumption | exact leftT_mem (by assumption)) | (with_reducible refine need ?_ ?_; first | trivial | omega | exact ⟨by assumption, by omega⟩ | (simp only [List.length_append, List.length_cons, List.length_nil, List.length_map, List.length_take, List.length_drop, List.length_replicate, List.length_set]; omega)) | (with_reducible refine fact ?_ ?_; first | trivial | exact ⟨rfl, rfl⟩ | kernel_rfl) | with_reducible refine choT (by assumption) ?_ | with_reducible refine choF (by assumption) ?_ | with_reducible refine choF' (by assumption) ?_ | (with_reducible refine altT ?_ ?_; first | omega | (simp only [List.length_append, List.length_cons, List.length_nil, List.length_map, List.length_take, List.length_drop, List.length_replicate, List.length_set]; omega)) | with_reducible refine altF ?_ | with_reducible refine all fun _ => ?_ | with_reducible refine both ?_ ?_ | (with_reducible refine choT ?_ ?_; omega) | (with_reducible refine choF ?_ ?_; omega) | with_reducible refine cho (fun _ => ?_) (fun _ => ?_))
    exact ⟨_, _, _, rfl, retOwn (Sub.refl _ _), rfl, rfl⟩
instance {a : AV} {l : List En} {m : SM} [h : IsL a En.av 4 l m] : PC Go.Proofs.Try.prog 32 [a] (l.length ≤ 1000000) (.lst 1 ((l.map enB).map bl) .ro) := ⟨fun hl => ⟨[.lst 4 (l.map En.av) m], ⟨h.sub, trivial⟩, Leaves_ok l m hl⟩⟩
/-- What is known of a table, as a value. -/
abbrev tabA (lev n : Int) (d : List UInt8) (f g : List UInt8) : AV := .agg (I .i64 lev :: I .i64 n :: (d.map byt ++ [S f, S g]))
def zeroD : List UInt8 := List.replicate 32 0
instance : Len32 zeroD := ⟨by simp [zeroD]⟩
theorem litTab {zs : List AV} {offs : List (Nat × Nat)} {lev n : Int} {d f g : List UInt8} {K : AV → Prop} [hc : Len32 d] (h2 : zs.length = 36) (h3 : offs = [(0, 1), (1, 1), (2, 32), (34, 1), (35, 1)]) (hK : K (tabA lev n d f g)) : Do (aLit zs offs [(0, I .i64 lev), (1, I .i64 n), (2, dgA d), (3, S f), (4, S g)]) K := by
  have hl := hc.len
  refine ⟨_, ⟨?_, I .i64 lev :: I .i64 n :: (d.map byt ++ [S f, S g]), ?_, rfl⟩, hK⟩
  · intro p hp y hy
    simp only [List.mem_cons, List.not_mem_nil, or_false] at hp
    rcases hp with rfl | rfl | rfl | rfl | rfl
    · rw [List.mem_singleton.1 (show y ∈ [I .i64 lev] from hy)]; rfl
    · rw [List.mem_singleton.1 (show y ∈ [I .i64 n] from hy)]; rfl
    · obtain ⟨z, _, rfl⟩ := List.mem_map.1 (show y ∈ d.map byt from hy); rfl
    · rw [List.mem_singleton.1 (show y ∈ [S f] from hy)]; rfl
    · rw [List.mem_singleton.1 (show y ∈ [S g] from hy)]; rfl
  · subst h3
    have e : ∀ (i off s : Nat) (cs : List AV) (v : AV) (rest : List (Nat × AV)) (pl : Nat → Option (Nat × Nat)), pl i = some (off, s) → v.cells.length = s → off + s ≤ cs.length → fillA pl cs ((i, v) :: rest) = fillA pl (splice cs off v.cells) rest := by
      intro i off s cs v rest pl h1 h2 h3
      conv => lhs; unfold fillA
      rw [h1]
      simp only
      rw [if_pos ⟨h2, h3⟩]
    have c3 : (dgA d).cells.length = 32 := by simp [AV.cells, hl]
    rw [e 0 0 1 zs _ _ _ rfl rfl (by omega)]
    have l1 : (splice zs 0 (AV.cells (I .i64 lev))).length = 36 := by rw [splice_length (by simp [AV.cells]; omega)]; exact h2
    rw [e 1 1 1 _ _ _ _ rfl rfl (by omega)]
    have l2 : (splice (splice zs 0 (AV.cells (I .i64 lev))) 1 (AV.cells (I .i64 n))).length = 36 := by rw [splice_length (by rw [l1]; simp [AV.cells])]; exact l1
    rw [e 2 2 32 _ _ _ _ rfl c3 (by omega)]
    have l3 : (splice (splice (splice zs 0 (AV.cells (I .i64 lev))) 1 (AV.cells (I .i64 n))) 2 (AV.cells (dgA d))).length = 36 := by rw [splice_length (by rw [l2, c3]; decide)]; exact l2
    rw [e 3 34 1 _ _ _ _ rfl rfl (by omega)]
    have l4 : (splice (splice (splice (splice zs 0 (AV.cells (I .i64 lev))) 1 (AV.cells (I .i64 n))) 2 (AV.cells (dgA d))) 34 (AV.cells (S f))).length = 36 := by rw [splice_length (by rw [l3]; simp [AV.cells])]; exact l3
    rw [e 4 35 1 _ _ _ _ rfl rfl (by omega)]
    unfold fillA
    congr 1
    have hd : (d.map byt).length = 32 := by simp [hl]
    have ed : AV.cells (dgA d) = d.map byt := rfl
    rw [ed]
    generalize d.map byt = D at hd
    have s1 : splice zs 0 (AV.cells (I .i64 lev)) = I .i64 lev :: zs.drop 1 := by simp [splice, AV.cells]
    rw [s1]
    have s2 : splice (I .i64 lev :: zs.drop 1) 1 (AV.cells (I .i64 n)) = I .i64 lev :: I .i64 n :: zs.drop 2 := by simp [splice, AV.cells]
    rw [s2]
    have s3 : splice (I .i64 lev :: I .i64 n :: zs.drop 2) 2 D = I .i64 lev :: I .i64 n :: (D ++ zs.drop 34) := by simp [splice, hd]
    rw [s3]
    have hz : ∃ x y, zs.drop 34 = [x, y] := by
      have : (zs.drop 34).length = 2 := by simp [h2]
      match zs.drop 34, this with
      | [x, y], _ => exact ⟨x, y, rfl⟩
    obtain ⟨x, y, hz⟩ := hz
    rw [hz]
    have s4 : splice (I .i64 lev :: I .i64 n :: (D ++ [x, y])) 34 (AV.cells (S f)) = I .i64 lev :: I .i64 n :: (D ++ [S f, y]) := by
      have e1 : I .i64 lev :: I .i64 n :: (D ++ [x, y]) = (I .i64 lev :: I .i64 n :: D) ++ [x, y] := rfl
      have e2 : (I .i64 lev :: I .i64 n :: D).length = 34 := by simp [hd]
      rw [e1]
      unfold splice
      rw [List.take_left' e2, List.drop_append, e2, List.drop_of_length_le (by rw [e2]; simp [AV.cells])]
      simp [AV.cells]
    rw [s4]
    have e1 : I .i64 lev :: I .i64 n :: (D ++ [S f, y]) = (I .i64 lev :: I .i64 n :: (D ++ [S f])) ++ [y] := by simp
    have e2 : (I .i64 lev :: I .i64 n :: (D ++ [S f])).length = 35 := by simp [hd]
    rw [e1]
    unfold splice
    rw [List.take_left' e2, List.drop_of_length_le (by rw [List.length_append, e2]; simp [AV.cells])]
    simp [AV.cells]
end Go.Ab

/- What is known of a table. -/
set_option linter.unusedVariables false
set_option linter.unusedSimpArgs false
namespace Go.Ab
section tab
variable {b : Nat} {t : TypeId} {cs : List AV} {lev n : Int} {d f g : List UInt8} {σ rest : Store} {put : Ent → Store} {k : AV → Store → Prop} {K : AV → Prop}
abbrev tabCs (lev n : Int) (d f g : List UInt8) : List AV := I .i64 lev :: I .i64 n :: (d.map byt ++ [S f, S g])
theorem tabCs_len [hc : Len32 d] : (tabCs lev n d f g).length = 36 := by simp [hc.len]
instance (priority := 75) stTab [hc : Len32 d] [hv : VarAt b σ t cs put rest] [hl : LenA cs 36] : Stp (storeA 36 (ptrAt b 0) (tabA lev n d f g) σ k) (k .undef (put (.var b t (tabCs lev n d f g)))) := ⟨fun hK => by
  obtain ⟨σ1, σ2, e, e2, _⟩ := hv.at_
  have h36 := tabCs_len (lev := lev) (n := n) (d := d) (f := f) (g := g)
  refine ⟨h36, fun c hc => ?_, rfl, σ1, σ2, t, cs, e, by rw [hl.eq]; show 0 + 36 ≤ 36; omega, ?_⟩
  · have hc : c ∈ tabCs lev n d f g := hc
    simp only [List.mem_cons, List.mem_append, List.mem_map, List.not_mem_nil, or_false] at hc
    rcases hc with rfl | rfl | ⟨y, _, rfl⟩ | rfl | rfl <;> rfl
  · rw [e2] at hK
    have : splice cs 0 (AV.cells (tabA lev n d f g)) = tabCs lev n d f g := by
      show splice cs 0 (tabCs lev n d f g) = _
      unfold splice
      rw [List.take_zero, List.nil_append, Nat.zero_add, h36, List.drop_of_length_le (by rw [hl.eq]; decide), List.append_nil]
    rw [this]
    exact hK⟩
instance (priority := 75) ldTab [hc : Len32 d] [hv : VarAt b σ t (tabCs lev n d f g) put rest] : Stp (Do (loadA true 36 (ptrAt b 0) σ) K) (K (tabA lev n d f g)) := ⟨fun hK => by
  obtain ⟨σ1, σ2, e, _⟩ := hv.at_
  have h36 := tabCs_len (lev := lev) (n := n) (d := d) (f := f) (g := g)
  refine ⟨_, ⟨by decide, fun h => by (cases h), rfl, t, _, by rw [e]; exact List.mem_append.2 (.inr (List.mem_cons_self ..)), by rw [h36]; show 0 + 36 ≤ 36; omega, ?_⟩, hK⟩
  show _ = mkV true (((tabCs lev n d f g).drop 0).take 36)
  rw [List.drop_zero, List.take_of_length_le (by omega)]
  rfl⟩
end tab
def table_Describe.mark : Mark := ⟨fun t => Nat.beq t 9 || Nat.beq t 25, fun t => false, fun t => Nat.beq t 3, fun t => Nat.beq t 23 || Nat.beq t 30 || Nat.beq t 37, fun t => false⟩
def table_Describe.ann : Ann := ⟨fun n => [], fun n => none, fun n => none⟩
/-- 'marlstone/table.Describe' -/
def table_Describe.sh (a0 a1 a2 : AV) (σ : Store) (Q : AEnd → Store → Prop) : Prop :=
  Do (aFreeze ((a0 : AV)).cells) fun t3 =>
  aNewVar 48 [.val (.int .i64 0), .val (.int .i64 0), .val (.int .u8 0), .val (.int .u8 0), .val (.int .u8 0), .val (.int .u8 0), .val (.int .u8 0), .val (.int .u8 0), .val (.int .u8 0), .val (.int .u8 0), .val (.int .u8 0), .val (.int .u8 0), .val (.int .u8 0), .val (.int .u8 0), .val (.int .u8 0), .val (.int .u8 0), .val (.int .u8 0), .val (.int .u8 0), .val (.int .u8 0), .val (.int .u8 0), .val (.int .u8 0), .val (.int .u8 0), .val (.int .u8 0), .val (.int .u8 0), .val (.int .u8 0), .val (.int .u8 0), .val (.int .u8 0), .val (.int .u8 0), .val (.int .u8 0), .val (.int .u8 0), .val (.int .u8 0), .val (.int .u8 0), .val (.int .u8 0), .val (.int .u8 0), .val (.string ⟨#[]⟩), .val (.string ⟨#[]⟩)] σ fun t6 σ =>
  Do (aPureC Go.Proofs.Try.prog 36 [a2]) fun t9 =>
  Do (aUn Go.Proofs.Try.prog .not t9) fun t10 =>
  Do (aGuard t10 false (aIs a1)) fun t12 =>
  Do (aGuard t10 false (aBin Go.Proofs.Try.prog .lss 3 t12 (.val (.int .i64 0)))) fun t13 =>
  Do (aPick t10 (.val (.bool true)) t13) fun t14 =>
  Do (aGuard t14 false (aIs a1)) fun t16 =>
  Do (aGuard t14 false (aBin Go.Proofs.Try.prog .geq 3 t16 (.val (.int .i64 4)))) fun t17 =>
  Do (aPick t14 (.val (.bool true)) t17) fun t18 =>
  aCond t18
    (Do (aLit [.val (.int .i64 0), .val (.int .i64 0), .val (.int .u8 0), .val (.int .u8 0), .val (.int .u8 0), .val (.int .u8 0), .val (.int .u8 0), .val (.int .u8 0), .val (.int .u8 0), .val (.int .u8 0), .val (.int .u8 0), .val (.int .u8 0), .val (.int .u8 0), .val (.int .u8 0), .val (.int .u8 0), .val (.int .u8 0), .val (.int .u8 0), .val (.int .u8 0), .val (.int .u8 0), .val (.int .u8 0), .val (.int .u8 0), .val (.int .u8 0), .val (.int .u8 0), .val (.int .u8 0), .val (.int .u8 0), .val (.int .u8 0), .val (.int .u8 0), .val (.int .u8 0), .val (.int .u8 0), .val (.int .u8 0), .val (.int .u8 0), .val (.int .u8 0), .val (.int .u8 0), .val (.int .u8 0), .val (.string ⟨#[]⟩), .val (.string ⟨#[]⟩)] [(0, 1), (1, 1), (2, 32), (34, 1), (35, 1)] []) fun t19 =>
    storeA 36 t6 t19 σ fun u σ_1 =>
    Do (loadA true 36 t6 σ_1) fun r6 => Q (.ret (.tuple [r6, (.val (.int .i64 1))])) σ_1)
    (Do (aBuiltin Go.Proofs.Try.prog .len #[22] [a2]) fun t22 =>
  Do (loadF true 1 t3) fun t23 =>
  Do (aPureC Go.Proofs.Try.prog 32 [a2]) fun t25 =>
  Do (aIndexAddr .slice 4 a2 (.val (.int .i64 0))) fun t28 =>
  Do (aFieldAddr 0 1 t28) fun t29 =>
  Do (loadF false 1 t29) fun t30 =>
  Do (aBuiltin Go.Proofs.Try.prog .len #[22] [a2]) fun t33 =>
  Do (aBin Go.Proofs.Try.prog .sub 3 t33 (.val (.int .i64 1))) fun t34 =>
  Do (aIndexAddr .slice 4 a2 t34) fun t35 =>
  Do (aFieldAddr 0 1 t35) fun t36 =>
  Do (loadF false 1 t36) fun t37 =>
  aCall Go.Proofs.Try.prog 62 [t23, t25] σ (fun t26 σ_2 =>
  Do (aLit [.val (.int .i64 0), .val (.int .i64 0), .val (.int .u8 0), .val (.int .u8 0), .val (.int .u8 0), .val (.int .u8 0), .val (.int .u8 0), .val (.int .u8 0), .val (.int .u8 0), .val (.int .u8 0), .val (.int .u8 0), .val (.int .u8 0), .val (.int .u8 0), .val (.int .u8 0), .val (.int .u8 0), .val (.int .u8 0), .val (.int .u8 0), .val (.int .u8 0), .val (.int .u8 0), .val (.int .u8 0), .val (.int .u8 0), .val (.int .u8 0), .val (.int .u8 0), .val (.int .u8 0), .val (.int .u8 0), .val (.int .u8 0), .val (.int .u8 0), .val (.int .u8 0), .val (.int .u8 0), .val (.int .u8 0), .val (.int .u8 0), .val (.int .u8 0), .val (.int .u8 0), .val (.int .u8 0), .val (.string ⟨#[]⟩), .val (.string ⟨#[]⟩)] [(0, 1), (1, 1), (2, 32), (34, 1), (35, 1)] [(0, a1), (1, t22), (2, t26), (3, t30), (4, t37)]) fun t38 =>
  storeA 36 t6 t38 σ_2 fun u_1 σ_3 =>
  Do (loadA true 36 t6 σ_3) fun r6_1 => Q (.ret (.tuple [r6_1, (.val (.int .i64 0))])) σ_3) (fun e σ_4 => Q (.pan e) σ_4))
theorem table_Describe.eq (a0 a1 a2 : AV) (σ : Store) (Q : AEnd → Store → Prop) : vc (semOf Go.Proofs.Try.prog table_Describe.mark) Go.Proofs.Try.f30.ntmps table_Describe.ann (bodyOf Go.Proofs.Try.f30) (endK [.cell 6 true 36, .tmp 7] Q) (argFr [a0, a1, a2]) σ = table_Describe.sh a0 a1 a2 σ Q := by kernel_rfl
theorem table_Describe.go {a0 a1 a2 : AV} {σ : Store} {Q : AEnd → Store → Prop} (h : table_Describe.sh a0 a1 a2 σ Q) : ACalls Go.Proofs.Try.prog 30 [a0, a1, a2] σ Q :=
  acalls_of_eq [.cell 6 true 36, .tmp 7] Go.Proofs.Try.func30 (by kernel_rfl) (by kernel_rfl) (by kernel_rfl) (by kernel_rfl) (table_Describe.eq a0 a1 a2 σ Q) h
/-- What is known of a table, part by part. -/
def dFit (lev : Nat) (l : List En) : Bool := fit l && decide (lev < 4)
def dErr (lev : Nat) (l : List En) : Nat := if dFit lev l = true then 0 else 1
def dLev (lev : Nat) (l : List En) : Nat := if dFit lev l = true then lev else 0
def dCnt (lev : Nat) (l : List En) : Nat := if dFit lev l = true then l.length else 0
def dRoot (b : Int) (lev : Nat) (l : List En) : List UInt8 := if dFit lev l = true then rootD b (l.map enB) else zeroD
def dFst (lev : Nat) (l : List En) : List UInt8 := if dFit lev l = true then (l.getD 0 default).key else []
def dLst (lev : Nat) (l : List En) : List UInt8 := if dFit lev l = true then (l.getD (l.length - 1) default).key else []
theorem Describe_ok (b : Int) (lev : Nat) (l : List En) (m : SM) (hl : l.length ≤ 1000000) (hv : lev ≤ 1000) : aPure Go.Proofs.Try.prog 30 [trA b, I .i64 (lev : Nat), .lst 4 (l.map En.av) m] (.tuple [tabA (dLev lev l : Nat) (dCnt lev l : Nat) (dRoot b lev l) (dFst lev l) (dLst lev l), I .i64 (dErr lev l : Nat)]) := by
  refine ACalls.fin (table_Describe.go ?_)
  unfold table_Describe.sh
  have hb : (l.map enB).length ≤ 1000000 ∧ ∀ b ∈ l.map enB, b.length ≤ 100000000000000 := ⟨by simpa using hl, fun b h => by
    obtain ⟨e, _, rfl⟩ := List.mem_map.1 h
    have := enB_length e
    omega⟩
  by_cases hf : dFit lev l = true
  · have h1 := hf
    unfold dFit at h1
    simp only [Bool.and_eq_true, decide_eq_true_eq] at h1
    obtain ⟨hfit, h4⟩ := h1
    have h0 : 0 < l.length := (fit_right hfit).2.1
    unfold dLev dCnt dRoot dFst dLst dErr
    simp only [if_pos hf]
    repeat' (first | with_reducible apply Stp.go | with_reducible refine imp fun _ => ?_ | (with_reducible refine hyp ?_ ?_; first | assumption | exact leftT_mem (by assumption)) | (with_reducible refine need ?_ ?_; first | trivial | omega | exact ⟨by assumption, by omega⟩ | (simp only [List.length_append, List.length_cons, List.length_nil, List.length_map, List.length_take, List.length_drop, List.length_replicate, List.length_set]; omega)) | (with_reducible refine fact ?_ ?_; first | trivial | exact ⟨rfl, rfl⟩ | kernel_rfl) | with_reducible refine choT (by assumption) ?_ | with_reducible refine choF (by assumption) ?_ | with_reducible refine choF' (by assumption) ?_ | (with_reducible refine altT ?_ ?_; first | omega | (simp only [List.length_append, List.length_cons, List.length_nil, List.length_map, List.length_take, List.length_drop, List.length_replicate, List.length_set]; omega)) | with_reducible refine altF ?_ | with_reducible refine all fun _ => ?_ | with_reducible refine both ?_ ?_ | (with_reducible refine choT ?_ ?_; omega) | (with_reducible refine choF ?_ ?_; omega) | with_reducible refine cho (fun _ => ?_) (fun _ => ?_))
    refine litTab rfl rfl ?_
    repeat' (first | with_reducible apply Stp.go | with_reducible refine imp fun _ => ?_ | (with_reducible refine hyp ?_ ?_; first | assumption | exact leftT_mem (by assumption)) | (with_reducible refine need ?_ ?_; first | trivial | omega | exact ⟨by assumption, by omega⟩ | (simp only [List.length_append, List.length_cons, List.length_nil, List.length_map, List.length_take, List.length_drop, List.length_replicate, List.length_set]; omega)) | (with_reducible refine fact ?_ ?_; first | trivial | exact ⟨rfl, rfl⟩ | kernel_rfl) | with_reducible refine choT (by assumption) ?_ | with_reducible refine choF (by assumption) ?_ | with_reducible refine choF' (by assumption) ?_ | (with_reducible refine altT ?_ ?_; first | omega | (simp only [List.length_append, List.length_cons, List.length_nil, List.length_map, List.length_take, List.length_drop, List.length_replicate, List.length_set]; omega)) | with_reducible refine altF ?_ | with_reducible refine all fun _ => ?_ | with_reducible refine both ?_ ?_ | (with_reducible refine choT ?_ ?_; omega) | (with_reducible refine choF ?_ ?_; omega) | with_reducible refine cho (fun _ => ?_) (fun _ => ?_))
    exact ⟨_, _, _, rfl, Sub.app_nil _, rfl, rfl⟩
  · unfold dLev dCnt dRoot dFst dLst dErr
    simp only [if_neg hf]
    have hcon : ¬ (fit l = true ∧ lev < 4) := by
      intro h
      apply hf
      unfold dFit
      rw [h.1, decide_eq_true h.2]; rfl
    repeat' (first | with_reducible apply Stp.go | with_reducible refine imp fun _ => ?_ | (with_reducible refine hyp ?_ ?_; first | assumption | exact leftT_mem (by assumption)) | (with_reducible refine need ?_ ?_; first | trivial | omega | exact ⟨by assumption, by omega⟩ | (simp only [List.length_append, List.length_cons, List.length_nil, List.length_map, List.length_take, List.length_drop, List.length_replicate, List.length_set]; omega)) | (with_reducible refine fact ?_ ?_; first | trivial | exact ⟨rfl, rfl⟩ | kernel_rfl) | with_reducible refine choT (by assumption) ?_ | with_reducible refine choF (by assumption) ?_ | with_reducible refine choF' (by assumption) ?_ | (with_reducible refine altT ?_ ?_; first | omega | (simp only [List.length_append, List.length_cons, List.length_nil, List.length_map, List.length_take, List.length_drop, List.length_replicate, List.length_set]; omega)) | with_reducible refine altF ?_ | with_reducible refine all fun _ => ?_ | with_reducible refine both ?_ ?_ | (with_reducible refine choT ?_ ?_; omega) | (with_reducible refine choF ?_ ?_; omega) | with_reducible refine cho (fun _ => ?_) (fun _ => ?_))
    all_goals first
      | (exfalso; apply hcon; refine ⟨?_, ?_⟩ <;> first | assumption | omega)
      | (refine (stTab (lev := 0) (n := 0) (d := zeroD) (f := []) (g := [])).go ?_
         repeat' (first | with_reducible apply Stp.go | with_reducible refine imp fun _ => ?_ | (with_reducible refine hyp ?_ ?_; first | assumption | exact leftT_mem (by assumption)) | (with_reducible refine need ?_ ?_; first | trivial | omega | exact ⟨by assumption, by omega⟩ | (simp only [List.length_append, List.length_cons, List.length_nil, List.length_map, List.length_take, List.length_drop, List.length_replicate, List.length_set]; omega)) | (with_reducible refine fact ?_ ?_; first | trivial | exact ⟨rfl, rfl⟩ | kernel_rfl) | with_reducible refine choT (by assumption) ?_ | with_reducible refine choF (by assumption) ?_ | with_reducible refine choF' (by assumption) ?_ | (with_reducible refine altT ?_ ?_; first | omega | (simp only [List.length_append, List.length_cons, List.length_nil, List.length_map, List.length_take, List.length_drop, List.length_replicate, List.length_set]; omega)) | with_reducible refine altF ?_ | with_reducible refine all fun _ => ?_ | with_reducible refine both ?_ ?_ | (with_reducible refine choT ?_ ?_; omega) | (with_reducible refine choF ?_ ?_; omega) | with_reducible refine cho (fun _ => ?_) (fun _ => ?_))
         exact ⟨_, _, _, rfl, Sub.app_nil _, rfl, rfl⟩)
      | trace_state
instance {a : AV} {l : List En} {m : SM} {b : Int} {lev : Nat} {x : Int} [h : IsL a En.av 4 l m] [hx : NatOf x lev] : PC Go.Proofs.Try.prog 30 [trA b, .val (.int .i64 x), a] (l.length ≤ 1000000 ∧ lev ≤ 1000) (.tuple [tabA (dLev lev l : Nat) (dCnt lev l : Nat) (dRoot b lev l) (dFst lev l) (dLst lev l), I .i64 (dErr lev l : Nat)]) := ⟨fun hl => by
  rw [hx.eq]
  exact ⟨[trA b, I .i64 (lev : Nat), .lst 4 (l.map En.av) m], ⟨SubV.refl _, SubV.refl _, h.sub, trivial⟩, Describe_ok b lev l m hl.1 hl.2⟩⟩
end Go.Ab

/- Folds, and places of keys. -/
set_option linter.unusedVariables false
set_option linter.unusedSimpArgs false
namespace Go.Ab
def entry_Find.mark : Mark := ⟨fun t => false, fun t => false, fun t => false, fun t => Nat.beq t 15, fun t => false⟩
def entry_Find.ann : Ann := ⟨fun n => bif Nat.beq n 3 then [1, 6, 7, 10, 11, 12] else [], fun n => bif Nat.beq n 7 then some [1, 6, 7, 9, 10, 11, 12] else none, fun n => none⟩
def ref03_Find.mark : Mark := ⟨fun t => false, fun t => false, fun t => false, fun t => Nat.beq t 19 || Nat.beq t 30, fun t => false⟩
def ref03_Find.ann : Ann := ⟨fun n => bif Nat.beq n 4 then [0, 1, 6, 7, 8] else [], fun n => bif Nat.beq n 8 then some [0, 1, 6, 7, 8] else none, fun n => none⟩
end Go.Ab

/- How long a block is. No program in sight. -/
set_option linter.unusedVariables false
set_option linter.unusedSimpArgs false
namespace Go.Ab
/-- Entries, folded, those that are right, as many as a block has. -/
def fitL (l : List En) : List En := ((foldE l).filter right).take 64
end Go.Ab
