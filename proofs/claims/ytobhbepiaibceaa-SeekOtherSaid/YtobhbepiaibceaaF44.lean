/- Leaves, nodes and roots of a tree. -/
import Derived.Test.YtobhbepiaibceaaF43
set_option linter.unusedVariables false
set_option linter.unusedSimpArgs false
namespace Go.Ab
instance (l : List UInt8) (b : Int) : Len32 (kept l b) := ⟨kept_length l b⟩
instance (priority := 75) srcDig {b : Nat} {σ rest : Store} {put : Ent → Store} {t : TypeId} {l : List UInt8} {m : Nat} [hl : Len32 l] [hv : VarAt b σ t (l.map byt) put rest] : SrcI 1 σ (.val (.slice (some ⟨b, 0, none⟩) 32 m)) UInt8 byt l := by
  have := srcV (b := b) (σ := σ) (t := t) (l := l) (f := byt) (m := m)
  rwa [hl.len] at this
/-- A tree's value. -/
abbrev trA (bits : Int) : AV := .agg [I .i64 bits]
/-- A digest's value. -/
abbrev dgA (d : List UInt8) : AV := .agg (d.map byt)
def leafD (bits : Int) (l : List UInt8) : List UInt8 := kept ([0] ++ l) bits
def nodeD (bits : Int) (l r : List UInt8) : List UInt8 := kept ([] ++ [1] ++ l ++ r) bits
instance (b : Int) (l : List UInt8) : Len32 (leafD b l) := ⟨kept_length _ _⟩
instance (b : Int) (l r : List UInt8) : Len32 (nodeD b l r) := ⟨kept_length _ _⟩
def tree_Tree_Leaf.mark : Mark := ⟨fun t => Nat.beq t 10, fun t => Nat.beq t 5, fun t => Nat.beq t 2, fun t => Nat.beq t 9, fun t => false⟩
def tree_Tree_Leaf.ann : Ann := ⟨fun n => [], fun n => none, fun n => none⟩
/-- '(marlstone/tree.Tree).Leaf' -/
def tree_Tree_Leaf.sh (a0 a1 : AV) (σ : Store) (Q : AEnd → Store → Prop) : Prop :=
  Do (aFreeze ((a0 : AV)).cells) fun t2 =>
  aNewVar 46 [.val (.int .u8 0), .val (.int .u8 0), .val (.int .u8 0), .val (.int .u8 0), .val (.int .u8 0), .val (.int .u8 0), .val (.int .u8 0), .val (.int .u8 0), .val (.int .u8 0), .val (.int .u8 0), .val (.int .u8 0), .val (.int .u8 0), .val (.int .u8 0), .val (.int .u8 0), .val (.int .u8 0), .val (.int .u8 0), .val (.int .u8 0), .val (.int .u8 0), .val (.int .u8 0), .val (.int .u8 0), .val (.int .u8 0), .val (.int .u8 0), .val (.int .u8 0), .val (.int .u8 0), .val (.int .u8 0), .val (.int .u8 0), .val (.int .u8 0), .val (.int .u8 0), .val (.int .u8 0), .val (.int .u8 0), .val (.int .u8 0), .val (.int .u8 0)] σ fun t4 σ =>
  Do (aFieldAddr 0 1 t2) fun t8 =>
  Do (loadF false 1 t8) fun t9 =>
  aRowL 5 (mkE [.val (.int .u8 0)]) 1 1 [(0, (W8 0))] σ fun t5 σ_1 =>
  aAppend 5 1 1 t5 a1 σ_1 (subF fun t7 σ_2 =>
  Do (aPureC Go.Proofs.Try.prog 77 [t7, t9]) fun t10 =>
  storeA 32 t4 t10 σ_2 fun u σ_3 =>
  Do (loadA true 32 t4 σ_3) fun r4 => Q (.ret r4) σ_3)
theorem tree_Tree_Leaf.eq (a0 a1 : AV) (σ : Store) (Q : AEnd → Store → Prop) : vc (semOf Go.Proofs.Try.prog tree_Tree_Leaf.mark) Go.Proofs.Try.f66.ntmps tree_Tree_Leaf.ann (bodyOf Go.Proofs.Try.f66) (endK [.cell 4 true 32] Q) (argFr [a0, a1]) σ = tree_Tree_Leaf.sh a0 a1 σ Q := by kernel_rfl
theorem tree_Tree_Leaf.go {a0 a1 : AV} {σ : Store} {Q : AEnd → Store → Prop} (h : tree_Tree_Leaf.sh a0 a1 σ Q) : ACalls Go.Proofs.Try.prog 66 [a0, a1] σ Q :=
  acalls_of_eq [.cell 4 true 32] Go.Proofs.Try.func66 (by kernel_rfl) (by kernel_rfl) (by kernel_rfl) (by kernel_rfl) (tree_Tree_Leaf.eq a0 a1 σ Q) h
def tree_Tree_Node.mark : Mark := ⟨fun t => Nat.beq t 20, fun t => false, fun t => Nat.beq t 3, fun t => Nat.beq t 19, fun t => false⟩
def tree_Tree_Node.ann : Ann := ⟨fun n => [], fun n => none, fun n => none⟩
/-- '(marlstone/tree.Tree).Node' -/
def tree_Tree_Node.sh (a0 a1 a2 : AV) (σ : Store) (Q : AEnd → Store → Prop) : Prop :=
  Do (aFreeze ((a0 : AV)).cells) fun t3 =>
  aNewVar 46 (a1 : AV).cells σ fun t4 σ =>
  aNewVar 46 (a2 : AV).cells σ fun t5 σ_1 =>
  aNewVar 46 [.val (.int .u8 0), .val (.int .u8 0), .val (.int .u8 0), .val (.int .u8 0), .val (.int .u8 0), .val (.int .u8 0), .val (.int .u8 0), .val (.int .u8 0), .val (.int .u8 0), .val (.int .u8 0), .val (.int .u8 0), .val (.int .u8 0), .val (.int .u8 0), .val (.int .u8 0), .val (.int .u8 0), .val (.int .u8 0), .val (.int .u8 0), .val (.int .u8 0), .val (.int .u8 0), .val (.int .u8 0), .val (.int .u8 0), .val (.int .u8 0), .val (.int .u8 0), .val (.int .u8 0), .val (.int .u8 0), .val (.int .u8 0), .val (.int .u8 0), .val (.int .u8 0), .val (.int .u8 0), .val (.int .u8 0), .val (.int .u8 0), .val (.int .u8 0)] σ_1 fun t6 σ_2 =>
  aMake 5 [(.int .u8 0)] 1 1 (.val (.int .i64 0)) (.val (.int .i64 65)) σ_2 (subK fun t8 σ_3 =>
  Do (aSlLit (mkE [.val (.int .u8 0)]) 1 1 [(0, (W8 1))]) fun t10 =>
  aAppend 5 1 1 t8 t10 σ_3 (subK fun t11 σ_4 =>
  Do (aSlice (.array 32) 1 t4 none none none) fun t13 =>
  aAppend 5 1 1 t11 t13 σ_4 (subK fun t14 σ_5 =>
  Do (aSlice (.array 32) 1 t5 none none none) fun t16 =>
  Do (aFieldAddr 0 1 t3) fun t18 =>
  Do (loadF false 1 t18) fun t19 =>
  aAppend 5 1 1 t14 t16 σ_5 (subF fun t17 σ_6 =>
  Do (aPureC Go.Proofs.Try.prog 77 [t17, t19]) fun t20 =>
  storeA 32 t6 t20 σ_6 fun u σ_7 =>
  Do (loadA true 32 t6 σ_7) fun r6 => Q (.ret r6) σ_7))))
theorem tree_Tree_Node.eq (a0 a1 a2 : AV) (σ : Store) (Q : AEnd → Store → Prop) : vc (semOf Go.Proofs.Try.prog tree_Tree_Node.mark) Go.Proofs.Try.f71.ntmps tree_Tree_Node.ann (bodyOf Go.Proofs.Try.f71) (endK [.cell 6 true 32] Q) (argFr [a0, a1, a2]) σ = tree_Tree_Node.sh a0 a1 a2 σ Q := by kernel_rfl
theorem tree_Tree_Node.go {a0 a1 a2 : AV} {σ : Store} {Q : AEnd → Store → Prop} (h : tree_Tree_Node.sh a0 a1 a2 σ Q) : ACalls Go.Proofs.Try.prog 71 [a0, a1, a2] σ Q :=
  acalls_of_eq [.cell 6 true 32] Go.Proofs.Try.func71 (by kernel_rfl) (by kernel_rfl) (by kernel_rfl) (by kernel_rfl) (tree_Tree_Node.eq a0 a1 a2 σ Q) h
def tree_half.mark : Mark := ⟨fun t => false, fun t => false, fun t => false, fun t => false, fun t => false⟩
def tree_half.ann : Ann := ⟨fun n => bif Nat.beq n 2 then [0, 3] else [], fun n => none, fun n => none⟩
/-- 'marlstone/tree.half' -/
def tree_half.sh (a0 : AV) (σ : Store) (Q : AEnd → Store → Prop) : Prop :=
  aLoop (fun go vs σ =>
    At vs 0 fun s0 => At vs 1 fun s3 => Do (aBin Go.Proofs.Try.prog .sub 3 s0 s3) fun t7 =>
    Do (aBin Go.Proofs.Try.prog .lss 3 s3 t7) fun t8 =>
    aCond t8
      (Do (aBin Go.Proofs.Try.prog .mul 3 s3 (.val (.int .i64 2))) fun t10 =>
    go [s0, t10] σ)
      (Q (.ret s3) σ))
    [a0, (.val (.int .i64 1))] σ
theorem tree_half.eq (a0 : AV) (σ : Store) (Q : AEnd → Store → Prop) : vc (semOf Go.Proofs.Try.prog tree_half.mark) Go.Proofs.Try.f100.ntmps tree_half.ann (bodyOf Go.Proofs.Try.f100) (endK [.tmp 2] Q) (argFr [a0]) σ = tree_half.sh a0 σ Q := by kernel_rfl
theorem tree_half.go {a0 : AV} {σ : Store} {Q : AEnd → Store → Prop} (h : tree_half.sh a0 σ Q) : ACalls Go.Proofs.Try.prog 100 [a0] σ Q :=
  acalls_of_eq [.tmp 2] Go.Proofs.Try.func100 (by kernel_rfl) (by kernel_rfl) (by kernel_rfl) (by kernel_rfl) (tree_half.eq a0 σ Q) h
def tree_Tree_Root.mark : Mark := ⟨fun t => Nat.beq t 12, fun t => false, fun t => Nat.beq t 2, fun t => Nat.beq t 11 || Nat.beq t 15 || Nat.beq t 18 || Nat.beq t 23 || Nat.beq t 24 || Nat.beq t 29, fun t => false⟩
def tree_Tree_Root.ann : Ann := ⟨fun n => [], fun n => none, fun n => none⟩
/-- '(marlstone/tree.Tree).Root' -/
def tree_Tree_Root.sh (a0 a1 : AV) (σ : Store) (Q : AEnd → Store → Prop) : Prop :=
  Do (aFreeze ((a0 : AV)).cells) fun t2 =>
  aNewVar 46 [.val (.int .u8 0), .val (.int .u8 0), .val (.int .u8 0), .val (.int .u8 0), .val (.int .u8 0), .val (.int .u8 0), .val (.int .u8 0), .val (.int .u8 0), .val (.int .u8 0), .val (.int .u8 0), .val (.int .u8 0), .val (.int .u8 0), .val (.int .u8 0), .val (.int .u8 0), .val (.int .u8 0), .val (.int .u8 0), .val (.int .u8 0), .val (.int .u8 0), .val (.int .u8 0), .val (.int .u8 0), .val (.int .u8 0), .val (.int .u8 0), .val (.int .u8 0), .val (.int .u8 0), .val (.int .u8 0), .val (.int .u8 0), .val (.int .u8 0), .val (.int .u8 0), .val (.int .u8 0), .val (.int .u8 0), .val (.int .u8 0), .val (.int .u8 0)] σ fun t4 σ =>
  Do (aBuiltin Go.Proofs.Try.prog .len #[37] [a1]) fun t7 =>
  Do (aBin Go.Proofs.Try.prog .eql 3 t7 (.val (.int .i64 0))) fun t9 =>
  aCond t9
    (Do (aFieldAddr 0 1 t2) fun t10 =>
    Do (loadF false 1 t10) fun t11 =>
    Do (aPureC Go.Proofs.Try.prog 77 [(.val (.slice none 0 0)), t11]) fun t12 =>
    storeA 32 t4 t12 σ fun u σ_1 =>
    Do (loadA true 32 t4 σ_1) fun r4 => Q (.ret r4) σ_1)
    (Do (aBin Go.Proofs.Try.prog .eql 3 t7 (.val (.int .i64 1))) fun t14 =>
    aCond t14
      (Do (loadF true 1 t2) fun t15 =>
      Do (aIndexAddr .slice 1 a1 (.val (.int .i64 0))) fun t17 =>
      Do (loadF false 1 t17) fun t18 =>
      aCall Go.Proofs.Try.prog 66 [t15, t18] σ (fun t19 σ_2 =>
      storeA 32 t4 t19 σ_2 fun u_1 σ_3 =>
      Do (loadA true 32 t4 σ_3) fun r4_1 => Q (.ret r4_1) σ_3) (fun e σ_4 => Q (.pan e) σ_4))
      (Do (aBuiltin Go.Proofs.Try.prog .len #[37] [a1]) fun t21 =>
  aCall Go.Proofs.Try.prog 100 [t21] σ (fun t22 σ_5 =>
  Do (loadF true 1 t2) fun t23 =>
  Do (loadF true 1 t2) fun t24 =>
  Do (aSlice .slice 1 a1 none (some t22) none) fun t27 =>
  Do (loadF true 1 t2) fun t29 =>
  Do (aSlice .slice 1 a1 (some t22) none none) fun t32 =>
  aCall Go.Proofs.Try.prog 62 [t24, t27] σ_5 (fun t28 σ_6 =>
  aCall Go.Proofs.Try.prog 62 [t29, t32] σ_6 (fun t33 σ_7 =>
  aCall Go.Proofs.Try.prog 71 [t23, t28, t33] σ_7 (fun t34 σ_8 =>
  storeA 32 t4 t34 σ_8 fun u_2 σ_9 =>
  Do (loadA true 32 t4 σ_9) fun r4_2 => Q (.ret r4_2) σ_9) (fun e_1 σ_10 => Q (.pan e_1) σ_10)) (fun e_2 σ_11 => Q (.pan e_2) σ_11)) (fun e_3 σ_12 => Q (.pan e_3) σ_12)) (fun e_4 σ_13 => Q (.pan e_4) σ_13)))
theorem tree_Tree_Root.eq (a0 a1 : AV) (σ : Store) (Q : AEnd → Store → Prop) : vc (semOf Go.Proofs.Try.prog tree_Tree_Root.mark) Go.Proofs.Try.f62.ntmps tree_Tree_Root.ann (bodyOf Go.Proofs.Try.f62) (endK [.cell 4 true 32] Q) (argFr [a0, a1]) σ = tree_Tree_Root.sh a0 a1 σ Q := by kernel_rfl
theorem tree_Tree_Root.go {a0 a1 : AV} {σ : Store} {Q : AEnd → Store → Prop} (h : tree_Tree_Root.sh a0 a1 σ Q) : ACalls Go.Proofs.Try.prog 62 [a0, a1] σ Q :=
  acalls_of_eq [.cell 4 true 32] Go.Proofs.Try.func62 (by kernel_rfl) (by kernel_rfl) (by kernel_rfl) (by kernel_rfl) (tree_Tree_Root.eq a0 a1 σ Q) h
theorem Leaf_ok (bits : Int) (l : List UInt8) (m : SM) (hl : l.length ≤ 100000000000000) : aPure Go.Proofs.Try.prog 66 [trA bits, .lst 1 (l.map byt) m] (dgA (leafD bits l)) := by
  refine ACalls.fin (tree_Tree_Leaf.go ?_)
  unfold tree_Tree_Leaf.sh
  have h32 := kept_length ([0] ++ l) bits
  repeat' (first | with_reducible apply Stp.go | with_reducible refine imp fun _ => ?_ | (with_reducible refine hyp ?_ ?_; first | assumption | exact leftT_mem (by assumption)) | (with_reducible refine need ?_ ?_; first | trivial | omega | exact ⟨by assumption, by omega⟩ | (simp only [List.length_append, List.length_cons, List.length_nil, List.length_map, List.length_take, List.length_drop, List.length_replicate, List.length_set]; omega)) | (with_reducible refine fact ?_ ?_; first | trivial | exact ⟨rfl, rfl⟩ | kernel_rfl) | with_reducible refine choT (by assumption) ?_ | with_reducible refine choF (by assumption) ?_ | with_reducible refine choF' (by assumption) ?_ | (with_reducible refine altT ?_ ?_; first | omega | (simp only [List.length_append, List.length_cons, List.length_nil, List.length_map, List.length_take, List.length_drop, List.length_replicate, List.length_set]; omega)) | with_reducible refine altF ?_ | with_reducible refine all fun _ => ?_ | with_reducible refine both ?_ ?_ | (with_reducible refine choT ?_ ?_; omega) | (with_reducible refine choF ?_ ?_; omega) | with_reducible refine cho (fun _ => ?_) (fun _ => ?_))
  exact ⟨_, _, _, rfl, Sub.app_nil _, rfl, rfl⟩
instance {a : AV} {l : List UInt8} {m : SM} {b : Int} [h : IsL a byt 1 l m] : PC Go.Proofs.Try.prog 66 [trA b, a] (l.length ≤ 100000000000000) (dgA (leafD b l)) := ⟨fun hl => ⟨[trA b, .lst 1 (l.map byt) m], ⟨SubV.refl _, h.sub, trivial⟩, Leaf_ok b l m hl⟩⟩
theorem Node_ok (bits : Int) (l r : List UInt8) [hl : Len32 l] [hr : Len32 r] : aPure Go.Proofs.Try.prog 71 [trA bits, dgA l, dgA r] (dgA (nodeD bits l r)) := by
  refine ACalls.fin (tree_Tree_Node.go ?_)
  unfold tree_Tree_Node.sh
  have h1 := hl.len
  have h2 := hr.len
  have h32 := kept_length (List.replicate 0 0 ++ [1] ++ l ++ r) bits
  repeat' (first | with_reducible apply Stp.go | with_reducible refine imp fun _ => ?_ | (with_reducible refine hyp ?_ ?_; first | assumption | exact leftT_mem (by assumption)) | (with_reducible refine need ?_ ?_; first | trivial | omega | exact ⟨by assumption, by omega⟩ | (simp only [List.length_append, List.length_cons, List.length_nil, List.length_map, List.length_take, List.length_drop, List.length_replicate, List.length_set]; omega)) | (with_reducible refine fact ?_ ?_; first | trivial | exact ⟨rfl, rfl⟩ | kernel_rfl) | with_reducible refine choT (by assumption) ?_ | with_reducible refine choF (by assumption) ?_ | with_reducible refine choF' (by assumption) ?_ | (with_reducible refine altT ?_ ?_; first | omega | (simp only [List.length_append, List.length_cons, List.length_nil, List.length_map, List.length_take, List.length_drop, List.length_replicate, List.length_set]; omega)) | with_reducible refine altF ?_ | with_reducible refine all fun _ => ?_ | with_reducible refine both ?_ ?_ | (with_reducible refine choT ?_ ?_; omega) | (with_reducible refine choF ?_ ?_; omega) | with_reducible refine cho (fun _ => ?_) (fun _ => ?_))
  exact ⟨_, _, _, rfl, Sub.app_nil _, rfl, rfl⟩
instance {l r : List UInt8} {b : Int} [hl : Len32 l] [hr : Len32 r] : PC Go.Proofs.Try.prog 71 [trA b, dgA l, dgA r] True (dgA (nodeD b l r)) := ⟨fun _ => PC.of (Node_ok b l r)⟩
/-- The greatest power of two below a number. -/
def halfGo (n k : Nat) : Nat := if h : 0 < k ∧ k < n - k then halfGo n (k * 2) else k
termination_by n - k
decreasing_by omega
def halfN (n : Nat) : Nat := halfGo n 1
theorem halfGo_lt {n : Nat} : ∀ {k : Nat}, 0 < k → k < n → 0 < halfGo n k ∧ halfGo n k < n := by
  intro k
  induction h : n - k using Nat.strongRecOn generalizing k with
  | _ m ih =>
    intro h0 h1
    unfold halfGo
    split
    · rename_i h2
      exact ih (n - k * 2) (by omega) rfl (by omega) (by omega)
    · exact ⟨h0, h1⟩
theorem halfN_lt {n : Nat} (h : 2 ≤ n) : 0 < halfN n ∧ halfN n < n := halfGo_lt (by omega) (by omega)
theorem half_ok' (n : Nat) (hn : n ≤ 9223372036854775807) : aPure Go.Proofs.Try.prog 100 [I .i64 (n : Nat)] (I .i64 (halfN n : Nat)) := by
  refine tree_half.go ?_
  unfold tree_half.sh
  repeat' (first | with_reducible apply Stp.go | with_reducible refine imp fun _ => ?_ | (with_reducible refine hyp ?_ ?_; first | assumption | exact leftT_mem (by assumption)) | (with_reducible refine need ?_ ?_; first | trivial | omega | exact ⟨by assumption, by omega⟩ | (simp only [List.length_append, List.length_cons, List.length_nil, List.length_map, List.length_take, List.length_drop, List.length_replicate, List.length_set]; omega)) | (with_reducible refine fact ?_ ?_; first | trivial | exact ⟨rfl, rfl⟩ | kernel_rfl) | with_reducible refine choT (by assumption) ?_ | with_reducible refine choF (by assumption) ?_ | with_reducible refine choF' (by assumption) ?_ | (with_reducible refine altT ?_ ?_; first | omega | (simp only [List.length_append, List.length_cons, List.length_nil, List.length_map, List.length_take, List.length_drop, List.length_replicate, List.length_set]; omega)) | with_reducible refine altF ?_ | with_reducible refine all fun _ => ?_ | with_reducible refine both ?_ ?_ | (with_reducible refine choT ?_ ?_; omega) | (with_reducible refine choF ?_ ?_; omega) | with_reducible refine cho (fun _ => ?_) (fun _ => ?_))
  refine loopI (β := Nat) (fun k => 0 < k ∧ (k = 1 ∨ k ≤ n) ∧ halfGo n k = halfN n) (fun k => [I .i64 (n : Nat), I .i64 (k : Nat)]) (fun _ => []) (fun k => n - k) 1 ⟨by omega, by omega, rfl⟩ (Sub.refl _ _) ?_
  rintro k ⟨h1, h2, h3⟩
  dsimp only at h1 h2 h3 ⊢
  repeat' (first | with_reducible apply Stp.go | with_reducible refine imp fun _ => ?_ | (with_reducible refine hyp ?_ ?_; first | assumption | exact leftT_mem (by assumption)) | (with_reducible refine need ?_ ?_; first | trivial | omega | exact ⟨by assumption, by omega⟩ | (simp only [List.length_append, List.length_cons, List.length_nil, List.length_map, List.length_take, List.length_drop, List.length_replicate, List.length_set]; omega)) | (with_reducible refine fact ?_ ?_; first | trivial | exact ⟨rfl, rfl⟩ | kernel_rfl) | with_reducible refine choT (by assumption) ?_ | with_reducible refine choF (by assumption) ?_ | with_reducible refine choF' (by assumption) ?_ | (with_reducible refine altT ?_ ?_; first | omega | (simp only [List.length_append, List.length_cons, List.length_nil, List.length_map, List.length_take, List.length_drop, List.length_replicate, List.length_set]; omega)) | with_reducible refine altF ?_ | with_reducible refine all fun _ => ?_ | with_reducible refine both ?_ ?_ | (with_reducible refine choT ?_ ?_; omega) | (with_reducible refine choF ?_ ?_; omega) | with_reducible refine cho (fun _ => ?_) (fun _ => ?_))
  · rename_i h4
    have e : halfGo n k = halfGo n (k * 2) := by
      conv => lhs; unfold halfGo
      rw [dif_pos ⟨h1, by omega⟩]
    exact again (k * 2) (by omega) ⟨by omega, by omega, e.symm.trans h3⟩ (Sub.refl _ _)
  · rename_i h4
    have e : halfGo n k = k := by
      unfold halfGo
      rw [dif_neg (by omega)]
    rw [← h3, e]
    exact ⟨rfl, rfl⟩
instance {n : Nat} : PC Go.Proofs.Try.prog 100 [I .i64 (n : Nat)] (n ≤ 9223372036854775807) (I .i64 (halfN n : Nat)) := ⟨fun hl => PC.of (half_ok' n hl)⟩
theorem halfGo_pow {n : Nat} : ∀ {k : Nat}, 0 < k → (∃ j, halfGo n k = k * 2 ^ j) ∧ n ≤ 2 * halfGo n k := by
  intro k
  induction h : n - k using Nat.strongRecOn generalizing k with
  | _ m ih =>
    intro h0
    unfold halfGo
    split
    · rename_i h2
      obtain ⟨⟨j, hj⟩, h3⟩ := ih (n - k * 2) (by omega) rfl (by omega)
      exact ⟨⟨j + 1, by rw [hj, Nat.mul_assoc, Nat.pow_succ, Nat.mul_comm 2]⟩, h3⟩
    · exact ⟨⟨0, by simp⟩, by omega⟩
/-- It is a power of two, and at least half. -/
theorem halfN_pow (n : Nat) : (∃ j, halfN n = 2 ^ j) ∧ n ≤ 2 * halfN n := by
  obtain ⟨⟨j, hj⟩, h⟩ := halfGo_pow (n := n) (k := 1) (by omega)
  exact ⟨⟨j, by rw [halfN, hj, Nat.one_mul]⟩, h⟩
/-- Both halves of what is no more than a power are no more than the one below. -/
theorem halfN_log {n m : Nat} (h2 : 2 ≤ n) (h : n ≤ 2 ^ (m + 1)) : halfN n ≤ 2 ^ m ∧ n - halfN n ≤ 2 ^ m := by
  obtain ⟨⟨j, hj⟩, h3⟩ := halfN_pow n
  have hh := (halfN_lt h2).2
  have h4 : 2 ^ j < 2 ^ (m + 1) := by omega
  have h5 : j < m + 1 := (Nat.pow_lt_pow_iff_right (by decide)).1 h4
  have h6 : 2 ^ j ≤ 2 ^ m := Nat.pow_le_pow_right (by decide) (by omega)
  omega
/-- Bytes as an element. -/
abbrev bl (b : List UInt8) : AV := .lst 1 (b.map byt) .ro
instance (b : List UInt8) : Cells (bl b) [bl b] := ⟨rfl⟩
instance : Enc bl 1 := ⟨fun e => ⟨rfl, fun c hc => by
  have hc : c ∈ [bl e] := hc
  rw [List.mem_singleton.1 hc]; rfl⟩, by decide, fun _ => rfl⟩
instance (b : List UInt8) : One (bl b) := ⟨rfl⟩
/-- The root of leaves. -/
def rootD (bits : Int) (L : List (List UInt8)) : List UInt8 :=
  if h0 : L.length = 0 then kept [] bits
  else if h1 : L.length = 1 then leafD bits (L.getD 0 default)
  else nodeD bits (rootD bits (L.take (halfN L.length))) (rootD bits (L.drop (halfN L.length)))
termination_by L.length
decreasing_by
  · have := halfN_lt (n := L.length) (by omega); simp only [List.length_take]; omega
  · have := halfN_lt (n := L.length) (by omega); simp only [List.length_drop]; omega
theorem rootD_len (bits : Int) (L : List (List UInt8)) : (rootD bits L).length = 32 := by
  unfold rootD
  split
  · exact kept_length _ _
  · split
    · exact Len32.len
    · exact kept_length _ _
instance (bits : Int) (L : List (List UInt8)) : Len32 (rootD bits L) := ⟨rootD_len _ _⟩
theorem Root_ok (bits : Int) : ∀ (n : Nat) (L : List (List UInt8)) (m : SM), L.length = n → L.length ≤ 1000000 → (∀ b ∈ L, b.length ≤ 100000000000000) → aPure Go.Proofs.Try.prog 62 [trA bits, .lst 1 (L.map bl) m] (dgA (rootD bits L)) := by
  intro n
  induction n using Nat.strongRecOn with
  | _ n ih =>
    intro L m hn hL hb
    refine ACalls.fin (tree_Tree_Root.go ?_)
    unfold tree_Tree_Root.sh
    have inst : ∀ (L' : List (List UInt8)) (m' : SM), PC Go.Proofs.Try.prog 62 [trA bits, .lst 1 (L'.map bl) m'] (L'.length < n ∧ L'.length ≤ 1000000 ∧ ∀ b ∈ L', b.length ≤ 100000000000000) (dgA (rootD bits L')) := fun L' m' => ⟨fun h => PC.of (ih L'.length h.1 L' m' rfl h.2.1 h.2.2)⟩
    have h32 := rootD_len bits L
    have k32 := kept_length [] bits
    by_cases h0 : L.length = 0
    · have e : rootD bits L = kept [] bits := by unfold rootD; rw [dif_pos h0]
      rw [e] at h32 ⊢
      repeat' (first | with_reducible apply Stp.go | with_reducible refine imp fun _ => ?_ | (with_reducible refine hyp ?_ ?_; first | assumption | exact leftT_mem (by assumption)) | (with_reducible refine need ?_ ?_; first | trivial | omega | exact ⟨by assumption, by omega⟩ | (simp only [List.length_append, List.length_cons, List.length_nil, List.length_map, List.length_take, List.length_drop, List.length_replicate, List.length_set]; omega)) | (with_reducible refine fact ?_ ?_; first | trivial | exact ⟨rfl, rfl⟩ | kernel_rfl) | with_reducible refine choT (by assumption) ?_ | with_reducible refine choF (by assumption) ?_ | with_reducible refine choF' (by assumption) ?_ | (with_reducible refine altT ?_ ?_; first | omega | (simp only [List.length_append, List.length_cons, List.length_nil, List.length_map, List.length_take, List.length_drop, List.length_replicate, List.length_set]; omega)) | with_reducible refine altF ?_ | with_reducible refine all fun _ => ?_ | with_reducible refine both ?_ ?_ | (with_reducible refine choT ?_ ?_; omega) | (with_reducible refine choF ?_ ?_; omega) | with_reducible refine cho (fun _ => ?_) (fun _ => ?_))
      exact ⟨_, _, _, rfl, Sub.app_nil _, rfl, rfl⟩
    · by_cases h1 : L.length = 1
      · have e : rootD bits L = leafD bits (L.getD 0 default) := by unfold rootD; rw [dif_neg h0, dif_pos h1]
        have hb0 : (L.getD 0 default).length ≤ 100000000000000 := hb _ (by rw [List.getD_eq_getElem?_getD, List.getElem?_eq_getElem (by omega)]; exact List.getElem_mem _)
        rw [e] at h32 ⊢
        repeat' (first | with_reducible apply Stp.go | with_reducible refine imp fun _ => ?_ | (with_reducible refine hyp ?_ ?_; first | assumption | exact leftT_mem (by assumption)) | (with_reducible refine need ?_ ?_; first | trivial | omega | exact ⟨by assumption, by omega⟩ | (simp only [List.length_append, List.length_cons, List.length_nil, List.length_map, List.length_take, List.length_drop, List.length_replicate, List.length_set]; omega)) | (with_reducible refine fact ?_ ?_; first | trivial | exact ⟨rfl, rfl⟩ | kernel_rfl) | with_reducible refine choT (by assumption) ?_ | with_reducible refine choF (by assumption) ?_ | with_reducible refine choF' (by assumption) ?_ | (with_reducible refine altT ?_ ?_; first | omega | (simp only [List.length_append, List.length_cons, List.length_nil, List.length_map, List.length_take, List.length_drop, List.length_replicate, List.length_set]; omega)) | with_reducible refine altF ?_ | with_reducible refine all fun _ => ?_ | with_reducible refine both ?_ ?_ | (with_reducible refine choT ?_ ?_; omega) | (with_reducible refine choF ?_ ?_; omega) | with_reducible refine cho (fun _ => ?_) (fun _ => ?_))
        exact ⟨_, _, _, rfl, Sub.app_nil _, rfl, rfl⟩
      · have hh := halfN_lt (n := L.length) (by omega)
        have e : rootD bits L = nodeD bits (rootD bits (L.take (halfN L.length))) (rootD bits (L.drop (halfN L.length))) := by
          conv => lhs; unfold rootD
          rw [dif_neg h0, dif_neg h1]
        have p1 : (L.take (halfN L.length)).length < n ∧ (L.take (halfN L.length)).length ≤ 1000000 ∧ ∀ b ∈ L.take (halfN L.length), b.length ≤ 100000000000000 := ⟨by simp; omega, by simp; omega, fun b h => hb b (List.mem_of_mem_take h)⟩
        have p2 : (L.drop (halfN L.length)).length < n ∧ (L.drop (halfN L.length)).length ≤ 1000000 ∧ ∀ b ∈ L.drop (halfN L.length), b.length ≤ 100000000000000 := ⟨by simp; omega, by simp; omega, fun b h => hb b (List.mem_of_mem_drop h)⟩
        rw [e] at h32 ⊢
        repeat' (first | with_reducible apply Stp.go | with_reducible refine imp fun _ => ?_ | (with_reducible refine hyp ?_ ?_; first | assumption | exact leftT_mem (by assumption)) | (with_reducible refine need ?_ ?_; first | trivial | omega | exact ⟨by assumption, by omega⟩ | (simp only [List.length_append, List.length_cons, List.length_nil, List.length_map, List.length_take, List.length_drop, List.length_replicate, List.length_set]; omega)) | (with_reducible refine fact ?_ ?_; first | trivial | exact ⟨rfl, rfl⟩ | kernel_rfl) | with_reducible refine choT (by assumption) ?_ | with_reducible refine choF (by assumption) ?_ | with_reducible refine choF' (by assumption) ?_ | (with_reducible refine altT ?_ ?_; first | omega | (simp only [List.length_append, List.length_cons, List.length_nil, List.length_map, List.length_take, List.length_drop, List.length_replicate, List.length_set]; omega)) | with_reducible refine altF ?_ | with_reducible refine all fun _ => ?_ | with_reducible refine both ?_ ?_ | (with_reducible refine choT ?_ ?_; omega) | (with_reducible refine choF ?_ ?_; omega) | with_reducible refine cho (fun _ => ?_) (fun _ => ?_))
        exact ⟨_, _, _, rfl, Sub.app_nil _, rfl, rfl⟩
instance {a : AV} {L : List (List UInt8)} {m : SM} {b : Int} [h : IsL a bl 1 L m] : PC Go.Proofs.Try.prog 62 [trA b, a] (L.length ≤ 1000000 ∧ ∀ b ∈ L, b.length ≤ 100000000000000) (dgA (rootD b L)) := ⟨fun hl => ⟨[trA b, .lst 1 (L.map bl) m], ⟨SubV.refl _, h.sub, trivial⟩, Root_ok b _ L m rfl hl.1 hl.2⟩⟩
end Go.Ab
