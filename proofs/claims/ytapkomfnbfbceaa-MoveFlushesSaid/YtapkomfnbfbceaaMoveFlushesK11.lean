/- The texts that this claim needs, part 11: a logic over abstract values, its steps, what the functions do. No condition of its own. -/
import Derived.Laws.BitsAllLaws
import Derived.Test.YtapkomfnbfbceaaMoveFlushesK10
/- The document's sum of a text: its first bits. -/
set_option linter.unusedVariables false
set_option linter.unusedSimpArgs false
namespace Go.Ab
instance andNot8 {P : Program} {t : TypeId} {x y : Int} {v w : UInt8} {K : AV → Prop} [h : U8Of x v] [k : U8Of y w] : Stp (Do (aBin P .andNot t (.val (.int .u8 x)) (.val (.int .u8 y))) K) (K (W8 (v &&& ~~~w))) := ⟨fun hK => ⟨_, by
  refine (aBin_val fun _ _ w0 => ?_).2 rfl
  have e : bits .andNot .u8 x y = (((v &&& ~~~w).toNat : Nat) : Int) := by
    rw [h.eq, k.eq, u8_andNot_nat v.toNat w.toNat v.toNat_lt w.toNat_lt, UInt8.toNat_and, UInt8.toNat_not]
    rfl
  rw [← e]
  simp [eqGuard, binOp, intBits_andNot], hK⟩⟩
def ref02_Kept.mark : Mark := ⟨fun t => Nat.beq t 8, fun t => false, fun t => false, fun t => false, fun t => false⟩
def ref02_Kept.ann : Ann := ⟨fun n => bif Nat.beq n 3 then [1, 4, 5, 6] else [], fun n => none, fun n => none⟩
/-- 'marlstone/marlstoneref02.Kept' -/
def ref02_Kept.sh (a0 a1 : AV) (σ : Store) (Q : AEnd → Store → Prop) : Prop :=
  aNewVar 37 [.val (.int .u8 0), .val (.int .u8 0), .val (.int .u8 0), .val (.int .u8 0), .val (.int .u8 0), .val (.int .u8 0), .val (.int .u8 0), .val (.int .u8 0), .val (.int .u8 0), .val (.int .u8 0), .val (.int .u8 0), .val (.int .u8 0), .val (.int .u8 0), .val (.int .u8 0), .val (.int .u8 0), .val (.int .u8 0), .val (.int .u8 0), .val (.int .u8 0), .val (.int .u8 0), .val (.int .u8 0), .val (.int .u8 0), .val (.int .u8 0), .val (.int .u8 0), .val (.int .u8 0), .val (.int .u8 0), .val (.int .u8 0), .val (.int .u8 0), .val (.int .u8 0), .val (.int .u8 0), .val (.int .u8 0), .val (.int .u8 0), .val (.int .u8 0)] σ fun t4 σ =>
  Do (aPureC Go.Proofs.Try.prog 85 [a0]) fun t8 =>
  aNewVar 37 [.val (.int .u8 0), .val (.int .u8 0), .val (.int .u8 0), .val (.int .u8 0), .val (.int .u8 0), .val (.int .u8 0), .val (.int .u8 0), .val (.int .u8 0), .val (.int .u8 0), .val (.int .u8 0), .val (.int .u8 0), .val (.int .u8 0), .val (.int .u8 0), .val (.int .u8 0), .val (.int .u8 0), .val (.int .u8 0), .val (.int .u8 0), .val (.int .u8 0), .val (.int .u8 0), .val (.int .u8 0), .val (.int .u8 0), .val (.int .u8 0), .val (.int .u8 0), .val (.int .u8 0), .val (.int .u8 0), .val (.int .u8 0), .val (.int .u8 0), .val (.int .u8 0), .val (.int .u8 0), .val (.int .u8 0), .val (.int .u8 0), .val (.int .u8 0)] σ fun t5 σ_1 =>
  storeA 32 t5 t8 σ_1 fun u σ_2 =>
  aLoop (fun go vs σ_3 =>
    At vs 0 fun s1 => At vs 1 fun s4 => At vs 2 fun s5 => At vs 3 fun s6 => Do (aBin Go.Proofs.Try.prog .lss 3 s6 (.val (.int .i64 256))) fun t10 =>
    aCond t10
      (Do (aBin Go.Proofs.Try.prog .geq 3 s6 s1) fun t15 =>
    aCond t15
      (Do (aBin Go.Proofs.Try.prog .quo 3 s6 (.val (.int .i64 8))) fun t17 =>
      Do (aBin Go.Proofs.Try.prog .quo 3 s6 (.val (.int .i64 8))) fun t19 =>
      Do (aIndexAddr (.array 32) 1 s5 t19) fun t20 =>
      Do (loadA false 1 t20 σ_3) fun t21 =>
      Do (aBin Go.Proofs.Try.prog .rem 3 s6 (.val (.int .i64 8))) fun t23 =>
      Do (fun x => aConvN 3 110 t23 x Go.Proofs.Try.prog) fun t24 =>
      Do (aBin Go.Proofs.Try.prog .shr 5 (W8 128) t24) fun t25 =>
      Do (aBin Go.Proofs.Try.prog .andNot 5 t21 t25) fun t26 =>
      Do (aIndexAddr (.array 32) 1 s5 t17) fun t27 =>
      storeA 1 t27 t26 σ_3 fun u_1 σ_4 =>
      Do (aBin Go.Proofs.Try.prog .add 3 s6 (.val (.int .i64 1))) fun t12 =>
    go [s1, s4, s5, t12] σ_4)
      (Do (aBin Go.Proofs.Try.prog .add 3 s6 (.val (.int .i64 1))) fun t12_1 =>
    go [s1, s4, s5, t12_1] σ_3))
      (Do (loadA true 32 s5 σ_3) fun t28 =>
  storeA 32 s4 t28 σ_3 fun u_2 σ_5 =>
  Do (loadA true 32 s4 σ_5) fun r4 => Q (.ret r4) σ_5))
    [a1, t4, t5, (.val (.int .i64 0))] σ_2
theorem ref02_Kept.eq (a0 a1 : AV) (σ : Store) (Q : AEnd → Store → Prop) : vc (semOf Go.Proofs.Try.prog ref02_Kept.mark) Go.Proofs.Try.f71.ntmps ref02_Kept.ann (bodyOf Go.Proofs.Try.f71) (endK [.cell 4 true 32] Q) (argFr [a0, a1]) σ = ref02_Kept.sh a0 a1 σ Q := by kernel_rfl
theorem ref02_Kept.go {a0 a1 : AV} {σ : Store} {Q : AEnd → Store → Prop} (h : ref02_Kept.sh a0 a1 σ Q) : ACalls Go.Proofs.Try.prog 71 [a0, a1] σ Q :=
  acalls_of_eq [.cell 4 true 32] Go.Proofs.Try.func71 (by kernel_rfl) (by kernel_rfl) (by kernel_rfl) (by kernel_rfl) (ref02_Kept.eq a0 a1 σ Q) h
theorem ref02_Kept_ok (l : List UInt8) (bits : Int) (hl : l.length ≤ 100000000000000) : aPure Go.Proofs.Try.prog 71 [S l, I .i64 bits] (.agg ((kept l bits).map byt)) := by
  refine ACalls.fin (ref02_Kept.go ?_)
  unfold ref02_Kept.sh
  have h32 := sha_length l
  have hall := clrN_all bits h32
  have hk : kept l bits = clrN bits (sha l) 256 := hall.symm
  rw [hk]
  repeat' (first | with_reducible apply Stp.go | with_reducible refine imp fun _ => ?_ | (with_reducible refine hyp ?_ ?_; first | assumption | exact leftT_mem (by assumption)) | (with_reducible refine need ?_ ?_; first | trivial | omega | exact ⟨by assumption, by omega⟩ | (simp only [List.length_append, List.length_cons, List.length_nil, List.length_map, List.length_take, List.length_drop, List.length_replicate, List.length_set]; omega)) | (with_reducible refine fact ?_ ?_; first | trivial | exact ⟨rfl, rfl⟩ | kernel_rfl) | with_reducible refine choT (by assumption) ?_ | with_reducible refine choF (by assumption) ?_ | with_reducible refine choF' (by assumption) ?_ | (with_reducible refine altT ?_ ?_; first | omega | (simp only [List.length_append, List.length_cons, List.length_nil, List.length_map, List.length_take, List.length_drop, List.length_replicate, List.length_set]; omega)) | with_reducible refine altF ?_ | with_reducible refine all fun _ => ?_ | with_reducible refine both ?_ ?_ | (with_reducible refine choT ?_ ?_; omega) | (with_reducible refine choF ?_ ?_; omega) | with_reducible refine cho (fun _ => ?_) (fun _ => ?_))
  rename_i r d
  refine loopI (β := Nat) (fun i => i ≤ 256) (fun i => [I .i64 bits, ptrAt r 0, ptrAt d 0, I .i64 (i : Nat)]) (fun i => [.var d 37 ((clrN bits (sha l) i).map byt), .var r 37 ((List.replicate 32 (0 : UInt8)).map byt)]) (fun i => 256 - i) 0 (Nat.zero_le _) (Sub.refl _ _) ?_
  intro i hi
  have hl2 : (clrN bits (sha l) i).length = 32 := (clrN_length bits (sha l) i).trans h32
  by_cases h3 : i < 256
  · have e8 : i % 8 % 18446744073709551616 = i % 8 := Nat.mod_eq_of_lt (by omega)
    by_cases hb : bits ≤ i
    · have hs : clrN bits (sha l) (i + 1) = (clrN bits (sha l) i).set (i / 8) ((clrN bits (sha l) i).getD (i / 8) default &&& ~~~((128 : UInt8) >>> UInt8.ofNat (i % 8))) := by rw [clrN, clrS, if_pos hb]
      repeat' (first | with_reducible apply Stp.go | with_reducible refine imp fun _ => ?_ | (with_reducible refine hyp ?_ ?_; first | assumption | exact leftT_mem (by assumption)) | (with_reducible refine need ?_ ?_; first | trivial | omega | exact ⟨by assumption, by omega⟩ | (simp only [List.length_append, List.length_cons, List.length_nil, List.length_map, List.length_take, List.length_drop, List.length_replicate, List.length_set]; omega)) | (with_reducible refine fact ?_ ?_; first | trivial | exact ⟨rfl, rfl⟩ | kernel_rfl) | with_reducible refine choT (by assumption) ?_ | with_reducible refine choF (by assumption) ?_ | with_reducible refine choF' (by assumption) ?_ | (with_reducible refine altT ?_ ?_; first | omega | (simp only [List.length_append, List.length_cons, List.length_nil, List.length_map, List.length_take, List.length_drop, List.length_replicate, List.length_set]; omega)) | with_reducible refine altF ?_ | with_reducible refine all fun _ => ?_ | with_reducible refine both ?_ ?_ | (with_reducible refine choT ?_ ?_; omega) | (with_reducible refine choF ?_ ?_; omega) | with_reducible refine cho (fun _ => ?_) (fun _ => ?_))
      refine again (i + 1) (by omega) (by omega) ?_
      rw [hs, e8]
      exact Sub.refl _ _
    · have hs : clrN bits (sha l) (i + 1) = clrN bits (sha l) i := by rw [clrN, clrS, if_neg hb]
      repeat' (first | with_reducible apply Stp.go | with_reducible refine imp fun _ => ?_ | (with_reducible refine hyp ?_ ?_; first | assumption | exact leftT_mem (by assumption)) | (with_reducible refine need ?_ ?_; first | trivial | omega | exact ⟨by assumption, by omega⟩ | (simp only [List.length_append, List.length_cons, List.length_nil, List.length_map, List.length_take, List.length_drop, List.length_replicate, List.length_set]; omega)) | (with_reducible refine fact ?_ ?_; first | trivial | exact ⟨rfl, rfl⟩ | kernel_rfl) | with_reducible refine choT (by assumption) ?_ | with_reducible refine choF (by assumption) ?_ | with_reducible refine choF' (by assumption) ?_ | (with_reducible refine altT ?_ ?_; first | omega | (simp only [List.length_append, List.length_cons, List.length_nil, List.length_map, List.length_take, List.length_drop, List.length_replicate, List.length_set]; omega)) | with_reducible refine altF ?_ | with_reducible refine all fun _ => ?_ | with_reducible refine both ?_ ?_ | (with_reducible refine choT ?_ ?_; omega) | (with_reducible refine choF ?_ ?_; omega) | with_reducible refine cho (fun _ => ?_) (fun _ => ?_))
      refine again (i + 1) (by omega) (by omega) ?_
      rw [hs]
      exact Sub.refl _ _
  · have e3 : i = 256 := by omega
    subst e3
    repeat' (first | with_reducible apply Stp.go | with_reducible refine imp fun _ => ?_ | (with_reducible refine hyp ?_ ?_; first | assumption | exact leftT_mem (by assumption)) | (with_reducible refine need ?_ ?_; first | trivial | omega | exact ⟨by assumption, by omega⟩ | (simp only [List.length_append, List.length_cons, List.length_nil, List.length_map, List.length_take, List.length_drop, List.length_replicate, List.length_set]; omega)) | (with_reducible refine fact ?_ ?_; first | trivial | exact ⟨rfl, rfl⟩ | kernel_rfl) | with_reducible refine choT (by assumption) ?_ | with_reducible refine choF (by assumption) ?_ | with_reducible refine choF' (by assumption) ?_ | (with_reducible refine altT ?_ ?_; first | omega | (simp only [List.length_append, List.length_cons, List.length_nil, List.length_map, List.length_take, List.length_drop, List.length_replicate, List.length_set]; omega)) | with_reducible refine altF ?_ | with_reducible refine all fun _ => ?_ | with_reducible refine both ?_ ?_ | (with_reducible refine choT ?_ ?_; omega) | (with_reducible refine choF ?_ ?_; omega) | with_reducible refine cho (fun _ => ?_) (fun _ => ?_))
    exact ⟨_, _, _, rfl, Sub.app_nil _, rfl, rfl⟩
instance {l : List UInt8} {b : Int} : PC Go.Proofs.Try.prog 71 [S l, I .i64 b] (l.length ≤ 100000000000000) (.agg ((kept l b).map byt)) := ⟨fun hl => PC.of (ref02_Kept_ok l b hl)⟩
end Go.Ab

/- The document's leaves, nodes and roots. -/
set_option linter.unusedVariables false
set_option linter.unusedSimpArgs false
namespace Go.Ab
instance (priority := 75) ldFD5 {l : List UInt8} {K : AV → Prop} [hl : Len32 l] : Stp (Do (loadF true 32 (.rptr (l.map byt))) K) (K (dgA l)) := ⟨fun hK => ⟨_, ⟨by decide, fun h => by (cases h), by simp [hl.len], by
  rw [List.take_of_length_le (by simp [hl.len])]; rfl⟩, hK⟩⟩
/-- A text as an element. -/
abbrev tx (b : List UInt8) : AV := S b
instance : Enc tx 1 := ⟨fun e => ⟨rfl, fun c hc => by
  have hc : c ∈ [tx e] := hc
  rw [List.mem_singleton.1 hc]; rfl⟩, by decide, fun _ => rfl⟩
instance (b : List UInt8) : Cells (tx b) [tx b] := ⟨rfl⟩
instance : ElemF [.val (.string ⟨#[]⟩)] (List UInt8) tx := ⟨trivial⟩
def ref05_LeafText.mark : Mark := ⟨fun t => false, fun t => false, fun t => false, fun t => false, fun t => false⟩
def ref05_LeafText.ann : Ann := ⟨fun n => [], fun n => none, fun n => none⟩
/-- 'marlstone/marlstoneref05.LeafText' -/
def ref05_LeafText.sh (a0 : AV) (σ : Store) (Q : AEnd → Store → Prop) : Prop :=
  Do (aBin Go.Proofs.Try.prog .add 9 (.val (.string ⟨#[0]⟩)) a0) fun t4 =>
  Q (.ret t4) σ
theorem ref05_LeafText.eq (a0 : AV) (σ : Store) (Q : AEnd → Store → Prop) : vc (semOf Go.Proofs.Try.prog ref05_LeafText.mark) Go.Proofs.Try.f86.ntmps ref05_LeafText.ann (bodyOf Go.Proofs.Try.f86) (endK [.tmp 2] Q) (argFr [a0]) σ = ref05_LeafText.sh a0 σ Q := by kernel_rfl
theorem ref05_LeafText.go {a0 : AV} {σ : Store} {Q : AEnd → Store → Prop} (h : ref05_LeafText.sh a0 σ Q) : ACalls Go.Proofs.Try.prog 86 [a0] σ Q :=
  acalls_of_eq [.tmp 2] Go.Proofs.Try.func86 (by kernel_rfl) (by kernel_rfl) (by kernel_rfl) (by kernel_rfl) (ref05_LeafText.eq a0 σ Q) h
def ref05_NodeText.mark : Mark := ⟨fun t => false, fun t => false, fun t => Nat.beq t 2 || Nat.beq t 3, fun t => false, fun t => false⟩
def ref05_NodeText.ann : Ann := ⟨fun n => [], fun n => none, fun n => none⟩
/-- 'marlstone/marlstoneref05.NodeText' -/
def ref05_NodeText.sh (a0 a1 : AV) (σ : Store) (Q : AEnd → Store → Prop) : Prop :=
  Do (aFreeze ((a0 : AV)).cells) fun t2 =>
  Do (aFreeze ((a1 : AV)).cells) fun t3 =>
  Do (aSlice (.array 32) 1 t2 none none none) fun t5 =>
  Do (aConvBS t5) fun t6 =>
  Do (aBin Go.Proofs.Try.prog .add 9 (.val (.string ⟨#[1]⟩)) t6) fun t7 =>
  Do (aSlice (.array 32) 1 t3 none none none) fun t8 =>
  Do (aConvBS t8) fun t9 =>
  Do (aBin Go.Proofs.Try.prog .add 9 t7 t9) fun t10 =>
  Q (.ret t10) σ
theorem ref05_NodeText.eq (a0 a1 : AV) (σ : Store) (Q : AEnd → Store → Prop) : vc (semOf Go.Proofs.Try.prog ref05_NodeText.mark) Go.Proofs.Try.f87.ntmps ref05_NodeText.ann (bodyOf Go.Proofs.Try.f87) (endK [.tmp 4] Q) (argFr [a0, a1]) σ = ref05_NodeText.sh a0 a1 σ Q := by kernel_rfl
theorem ref05_NodeText.go {a0 a1 : AV} {σ : Store} {Q : AEnd → Store → Prop} (h : ref05_NodeText.sh a0 a1 σ Q) : ACalls Go.Proofs.Try.prog 87 [a0, a1] σ Q :=
  acalls_of_eq [.tmp 4] Go.Proofs.Try.func87 (by kernel_rfl) (by kernel_rfl) (by kernel_rfl) (by kernel_rfl) (ref05_NodeText.eq a0 a1 σ Q) h
def ref05_Leaf.mark : Mark := ⟨fun t => Nat.beq t 6 || Nat.beq t 8, fun t => false, fun t => false, fun t => false, fun t => false⟩
def ref05_Leaf.ann : Ann := ⟨fun n => [], fun n => none, fun n => none⟩
/-- 'marlstone/marlstoneref05.Leaf' -/
def ref05_Leaf.sh (a0 a1 : AV) (σ : Store) (Q : AEnd → Store → Prop) : Prop :=
  aNewVar 37 [.val (.int .u8 0), .val (.int .u8 0), .val (.int .u8 0), .val (.int .u8 0), .val (.int .u8 0), .val (.int .u8 0), .val (.int .u8 0), .val (.int .u8 0), .val (.int .u8 0), .val (.int .u8 0), .val (.int .u8 0), .val (.int .u8 0), .val (.int .u8 0), .val (.int .u8 0), .val (.int .u8 0), .val (.int .u8 0), .val (.int .u8 0), .val (.int .u8 0), .val (.int .u8 0), .val (.int .u8 0), .val (.int .u8 0), .val (.int .u8 0), .val (.int .u8 0), .val (.int .u8 0), .val (.int .u8 0), .val (.int .u8 0), .val (.int .u8 0), .val (.int .u8 0), .val (.int .u8 0), .val (.int .u8 0), .val (.int .u8 0), .val (.int .u8 0)] σ fun t4 σ =>
  Do (aPureC Go.Proofs.Try.prog 86 [a1]) fun t6 =>
  Do (aPureC Go.Proofs.Try.prog 71 [t6, a0]) fun t8 =>
  storeA 32 t4 t8 σ fun u σ_1 =>
  Do (loadA true 32 t4 σ_1) fun r4 => Q (.ret r4) σ_1
theorem ref05_Leaf.eq (a0 a1 : AV) (σ : Store) (Q : AEnd → Store → Prop) : vc (semOf Go.Proofs.Try.prog ref05_Leaf.mark) Go.Proofs.Try.f72.ntmps ref05_Leaf.ann (bodyOf Go.Proofs.Try.f72) (endK [.cell 4 true 32] Q) (argFr [a0, a1]) σ = ref05_Leaf.sh a0 a1 σ Q := by kernel_rfl
theorem ref05_Leaf.go {a0 a1 : AV} {σ : Store} {Q : AEnd → Store → Prop} (h : ref05_Leaf.sh a0 a1 σ Q) : ACalls Go.Proofs.Try.prog 72 [a0, a1] σ Q :=
  acalls_of_eq [.cell 4 true 32] Go.Proofs.Try.func72 (by kernel_rfl) (by kernel_rfl) (by kernel_rfl) (by kernel_rfl) (ref05_Leaf.eq a0 a1 σ Q) h
def ref05_Node.mark : Mark := ⟨fun t => Nat.beq t 9 || Nat.beq t 11, fun t => false, fun t => Nat.beq t 4 || Nat.beq t 5, fun t => Nat.beq t 7 || Nat.beq t 8, fun t => false⟩
def ref05_Node.ann : Ann := ⟨fun n => [], fun n => none, fun n => none⟩
/-- 'marlstone/marlstoneref05.Node' -/
def ref05_Node.sh (a0 a1 a2 : AV) (σ : Store) (Q : AEnd → Store → Prop) : Prop :=
  Do (aFreeze ((a1 : AV)).cells) fun t4 =>
  Do (aFreeze ((a2 : AV)).cells) fun t5 =>
  aNewVar 37 [.val (.int .u8 0), .val (.int .u8 0), .val (.int .u8 0), .val (.int .u8 0), .val (.int .u8 0), .val (.int .u8 0), .val (.int .u8 0), .val (.int .u8 0), .val (.int .u8 0), .val (.int .u8 0), .val (.int .u8 0), .val (.int .u8 0), .val (.int .u8 0), .val (.int .u8 0), .val (.int .u8 0), .val (.int .u8 0), .val (.int .u8 0), .val (.int .u8 0), .val (.int .u8 0), .val (.int .u8 0), .val (.int .u8 0), .val (.int .u8 0), .val (.int .u8 0), .val (.int .u8 0), .val (.int .u8 0), .val (.int .u8 0), .val (.int .u8 0), .val (.int .u8 0), .val (.int .u8 0), .val (.int .u8 0), .val (.int .u8 0), .val (.int .u8 0)] σ fun t6 σ =>
  Do (loadF true 32 t4) fun t7 =>
  Do (loadF true 32 t5) fun t8 =>
  Do (aPureC Go.Proofs.Try.prog 87 [t7, t8]) fun t9 =>
  Do (aPureC Go.Proofs.Try.prog 71 [t9, a0]) fun t11 =>
  storeA 32 t6 t11 σ fun u σ_1 =>
  Do (loadA true 32 t6 σ_1) fun r6 => Q (.ret r6) σ_1
theorem ref05_Node.eq (a0 a1 a2 : AV) (σ : Store) (Q : AEnd → Store → Prop) : vc (semOf Go.Proofs.Try.prog ref05_Node.mark) Go.Proofs.Try.f74.ntmps ref05_Node.ann (bodyOf Go.Proofs.Try.f74) (endK [.cell 6 true 32] Q) (argFr [a0, a1, a2]) σ = ref05_Node.sh a0 a1 a2 σ Q := by kernel_rfl
theorem ref05_Node.go {a0 a1 a2 : AV} {σ : Store} {Q : AEnd → Store → Prop} (h : ref05_Node.sh a0 a1 a2 σ Q) : ACalls Go.Proofs.Try.prog 74 [a0, a1, a2] σ Q :=
  acalls_of_eq [.cell 6 true 32] Go.Proofs.Try.func74 (by kernel_rfl) (by kernel_rfl) (by kernel_rfl) (by kernel_rfl) (ref05_Node.eq a0 a1 a2 σ Q) h
def ref05_Half.mark : Mark := ⟨fun t => false, fun t => false, fun t => false, fun t => false, fun t => false⟩
def ref05_Half.ann : Ann := ⟨fun n => bif Nat.beq n 2 then [0, 3] else [], fun n => none, fun n => none⟩
/-- 'marlstone/marlstoneref05.Half' -/
def ref05_Half.sh (a0 : AV) (σ : Store) (Q : AEnd → Store → Prop) : Prop :=
  aLoop (fun go vs σ =>
    At vs 0 fun s0 => At vs 1 fun s3 => Do (aBin Go.Proofs.Try.prog .sub 3 s0 s3) fun t7 =>
    Do (aBin Go.Proofs.Try.prog .lss 3 s3 t7) fun t8 =>
    aCond t8
      (Do (aBin Go.Proofs.Try.prog .mul 3 s3 (.val (.int .i64 2))) fun t10 =>
    go [s0, t10] σ)
      (Q (.ret s3) σ))
    [a0, (.val (.int .i64 1))] σ
theorem ref05_Half.eq (a0 : AV) (σ : Store) (Q : AEnd → Store → Prop) : vc (semOf Go.Proofs.Try.prog ref05_Half.mark) Go.Proofs.Try.f73.ntmps ref05_Half.ann (bodyOf Go.Proofs.Try.f73) (endK [.tmp 2] Q) (argFr [a0]) σ = ref05_Half.sh a0 σ Q := by kernel_rfl
theorem ref05_Half.go {a0 : AV} {σ : Store} {Q : AEnd → Store → Prop} (h : ref05_Half.sh a0 σ Q) : ACalls Go.Proofs.Try.prog 73 [a0] σ Q :=
  acalls_of_eq [.tmp 2] Go.Proofs.Try.func73 (by kernel_rfl) (by kernel_rfl) (by kernel_rfl) (by kernel_rfl) (ref05_Half.eq a0 σ Q) h
def ref05_Root.mark : Mark := ⟨fun t => Nat.beq t 12 || Nat.beq t 20 || Nat.beq t 23 || Nat.beq t 28 || Nat.beq t 33 || Nat.beq t 37, fun t => false, fun t => false, fun t => Nat.beq t 19, fun t => false⟩
def ref05_Root.ann : Ann := ⟨fun n => [], fun n => none, fun n => none⟩
/-- 'marlstone/marlstoneref05.Root' -/
def ref05_Root.sh (a0 a1 : AV) (σ : Store) (Q : AEnd → Store → Prop) : Prop :=
  aNewVar 37 [.val (.int .u8 0), .val (.int .u8 0), .val (.int .u8 0), .val (.int .u8 0), .val (.int .u8 0), .val (.int .u8 0), .val (.int .u8 0), .val (.int .u8 0), .val (.int .u8 0), .val (.int .u8 0), .val (.int .u8 0), .val (.int .u8 0), .val (.int .u8 0), .val (.int .u8 0), .val (.int .u8 0), .val (.int .u8 0), .val (.int .u8 0), .val (.int .u8 0), .val (.int .u8 0), .val (.int .u8 0), .val (.int .u8 0), .val (.int .u8 0), .val (.int .u8 0), .val (.int .u8 0), .val (.int .u8 0), .val (.int .u8 0), .val (.int .u8 0), .val (.int .u8 0), .val (.int .u8 0), .val (.int .u8 0), .val (.int .u8 0), .val (.int .u8 0)] σ fun t4 σ =>
  Do (aBuiltin Go.Proofs.Try.prog .len #[75] [a1]) fun t9 =>
  Do (aBin Go.Proofs.Try.prog .eql 3 t9 (.val (.int .i64 0))) fun t10 =>
  aCond t10
    (Do (aPureC Go.Proofs.Try.prog 71 [(.val (.string ⟨#[]⟩)), a0]) fun t12 =>
    storeA 32 t4 t12 σ fun u σ_1 =>
    Do (loadA true 32 t4 σ_1) fun r4 => Q (.ret r4) σ_1)
    (Do (aBuiltin Go.Proofs.Try.prog .len #[75] [a1]) fun t14 =>
  Do (aBin Go.Proofs.Try.prog .eql 3 t14 (.val (.int .i64 1))) fun t15 =>
  aCond t15
    (Do (aIndexAddr .slice 1 a1 (.val (.int .i64 0))) fun t18 =>
    Do (loadF false 1 t18) fun t19 =>
    Do (aPureC Go.Proofs.Try.prog 72 [a0, t19]) fun t20 =>
    storeA 32 t4 t20 σ fun u_1 σ_2 =>
    Do (loadA true 32 t4 σ_2) fun r4_1 => Q (.ret r4_1) σ_2)
    (Do (aBuiltin Go.Proofs.Try.prog .len #[75] [a1]) fun t22 =>
  Do (aPureC Go.Proofs.Try.prog 73 [t22]) fun t23 =>
  Do (aSlice .slice 1 a1 none (some t23) none) fun t27 =>
  Do (aPureC Go.Proofs.Try.prog 48 [a0, t27]) fun t28 =>
  aNewVar 37 [.val (.int .u8 0), .val (.int .u8 0), .val (.int .u8 0), .val (.int .u8 0), .val (.int .u8 0), .val (.int .u8 0), .val (.int .u8 0), .val (.int .u8 0), .val (.int .u8 0), .val (.int .u8 0), .val (.int .u8 0), .val (.int .u8 0), .val (.int .u8 0), .val (.int .u8 0), .val (.int .u8 0), .val (.int .u8 0), .val (.int .u8 0), .val (.int .u8 0), .val (.int .u8 0), .val (.int .u8 0), .val (.int .u8 0), .val (.int .u8 0), .val (.int .u8 0), .val (.int .u8 0), .val (.int .u8 0), .val (.int .u8 0), .val (.int .u8 0), .val (.int .u8 0), .val (.int .u8 0), .val (.int .u8 0), .val (.int .u8 0), .val (.int .u8 0)] σ fun t6 σ_3 =>
  storeA 32 t6 t28 σ_3 fun u_2 σ_4 =>
  Do (aSlice .slice 1 a1 (some t23) none none) fun t32 =>
  Do (aPureC Go.Proofs.Try.prog 48 [a0, t32]) fun t33 =>
  aNewVar 37 [.val (.int .u8 0), .val (.int .u8 0), .val (.int .u8 0), .val (.int .u8 0), .val (.int .u8 0), .val (.int .u8 0), .val (.int .u8 0), .val (.int .u8 0), .val (.int .u8 0), .val (.int .u8 0), .val (.int .u8 0), .val (.int .u8 0), .val (.int .u8 0), .val (.int .u8 0), .val (.int .u8 0), .val (.int .u8 0), .val (.int .u8 0), .val (.int .u8 0), .val (.int .u8 0), .val (.int .u8 0), .val (.int .u8 0), .val (.int .u8 0), .val (.int .u8 0), .val (.int .u8 0), .val (.int .u8 0), .val (.int .u8 0), .val (.int .u8 0), .val (.int .u8 0), .val (.int .u8 0), .val (.int .u8 0), .val (.int .u8 0), .val (.int .u8 0)] σ_4 fun t7 σ_5 =>
  storeA 32 t7 t33 σ_5 fun u_3 σ_6 =>
  Do (loadA true 32 t6 σ_6) fun t35 =>
  Do (loadA true 32 t7 σ_6) fun t36 =>
  Do (aPureC Go.Proofs.Try.prog 74 [a0, t35, t36]) fun t37 =>
  storeA 32 t4 t37 σ_6 fun u_4 σ_7 =>
  Do (loadA true 32 t4 σ_7) fun r4_2 => Q (.ret r4_2) σ_7))
theorem ref05_Root.eq (a0 a1 : AV) (σ : Store) (Q : AEnd → Store → Prop) : vc (semOf Go.Proofs.Try.prog ref05_Root.mark) Go.Proofs.Try.f48.ntmps ref05_Root.ann (bodyOf Go.Proofs.Try.f48) (endK [.cell 4 true 32] Q) (argFr [a0, a1]) σ = ref05_Root.sh a0 a1 σ Q := by kernel_rfl
theorem ref05_Root.go {a0 a1 : AV} {σ : Store} {Q : AEnd → Store → Prop} (h : ref05_Root.sh a0 a1 σ Q) : ACalls Go.Proofs.Try.prog 48 [a0, a1] σ Q :=
  acalls_of_eq [.cell 4 true 32] Go.Proofs.Try.func48 (by kernel_rfl) (by kernel_rfl) (by kernel_rfl) (by kernel_rfl) (ref05_Root.eq a0 a1 σ Q) h
theorem ref05_LeafText_ok (l : List UInt8) (hl : l.length ≤ 10000000000000) : aPure Go.Proofs.Try.prog 86 [S l] (S ([0] ++ l)) := by
  refine ref05_LeafText.go ?_
  unfold ref05_LeafText.sh
  repeat' (first | with_reducible apply Stp.go | with_reducible refine imp fun _ => ?_ | (with_reducible refine hyp ?_ ?_; first | assumption | exact leftT_mem (by assumption)) | (with_reducible refine need ?_ ?_; first | trivial | omega | exact ⟨by assumption, by omega⟩ | (simp only [List.length_append, List.length_cons, List.length_nil, List.length_map, List.length_take, List.length_drop, List.length_replicate, List.length_set]; omega)) | (with_reducible refine fact ?_ ?_; first | trivial | exact ⟨rfl, rfl⟩ | kernel_rfl) | with_reducible refine choT (by assumption) ?_ | with_reducible refine choF (by assumption) ?_ | with_reducible refine choF' (by assumption) ?_ | (with_reducible refine altT ?_ ?_; first | omega | (simp only [List.length_append, List.length_cons, List.length_nil, List.length_map, List.length_take, List.length_drop, List.length_replicate, List.length_set]; omega)) | with_reducible refine altF ?_ | with_reducible refine all fun _ => ?_ | with_reducible refine both ?_ ?_ | (with_reducible refine choT ?_ ?_; omega) | (with_reducible refine choF ?_ ?_; omega) | with_reducible refine cho (fun _ => ?_) (fun _ => ?_))
  exact ⟨rfl, rfl⟩
instance {l : List UInt8} : PC Go.Proofs.Try.prog 86 [S l] (l.length ≤ 10000000000000) (S ([0] ++ l)) := ⟨fun hl => PC.of (ref05_LeafText_ok l hl)⟩
theorem ref05_NodeText_ok (l r : List UInt8) [hl : Len32 l] [hr : Len32 r] : aPure Go.Proofs.Try.prog 87 [dgA l, dgA r] (S ([1] ++ l ++ r)) := by
  refine ACalls.fin (ref05_NodeText.go ?_)
  unfold ref05_NodeText.sh
  have h1 := hl.len
  have h2 := hr.len
  have m1 : 32 = l.length ∧ 32 ≤ maxLen := ⟨h1.symm, by decide⟩
  have m2 : 32 = r.length ∧ 32 ≤ maxLen := ⟨h2.symm, by decide⟩
  repeat' (first | with_reducible apply Stp.go | with_reducible refine imp fun _ => ?_ | (with_reducible refine hyp ?_ ?_; first | assumption | exact leftT_mem (by assumption)) | (with_reducible refine need ?_ ?_; first | trivial | omega | exact ⟨by assumption, by omega⟩ | (simp only [List.length_append, List.length_cons, List.length_nil, List.length_map, List.length_take, List.length_drop, List.length_replicate, List.length_set]; omega)) | (with_reducible refine fact ?_ ?_; first | trivial | exact ⟨rfl, rfl⟩ | kernel_rfl) | with_reducible refine choT (by assumption) ?_ | with_reducible refine choF (by assumption) ?_ | with_reducible refine choF' (by assumption) ?_ | (with_reducible refine altT ?_ ?_; first | omega | (simp only [List.length_append, List.length_cons, List.length_nil, List.length_map, List.length_take, List.length_drop, List.length_replicate, List.length_set]; omega)) | with_reducible refine altF ?_ | with_reducible refine all fun _ => ?_ | with_reducible refine both ?_ ?_ | (with_reducible refine choT ?_ ?_; omega) | (with_reducible refine choF ?_ ?_; omega) | with_reducible refine cho (fun _ => ?_) (fun _ => ?_))
  exact ⟨_, _, _, rfl, Sub.app_nil _, rfl, rfl⟩
instance {l r : List UInt8} [hl : Len32 l] [hr : Len32 r] : PC Go.Proofs.Try.prog 87 [dgA l, dgA r] True (S ([1] ++ l ++ r)) := ⟨fun _ => PC.of (ref05_NodeText_ok l r)⟩
theorem ref05_Leaf_ok (b : Int) (l : List UInt8) (hl : l.length ≤ 10000000000000) : aPure Go.Proofs.Try.prog 72 [I .i64 b, S l] (dgA (leafD b l)) := by
  refine ACalls.fin (ref05_Leaf.go ?_)
  unfold ref05_Leaf.sh
  have h32 := kept_length ([0] ++ l) b
  repeat' (first | with_reducible apply Stp.go | with_reducible refine imp fun _ => ?_ | (with_reducible refine hyp ?_ ?_; first | assumption | exact leftT_mem (by assumption)) | (with_reducible refine need ?_ ?_; first | trivial | omega | exact ⟨by assumption, by omega⟩ | (simp only [List.length_append, List.length_cons, List.length_nil, List.length_map, List.length_take, List.length_drop, List.length_replicate, List.length_set]; omega)) | (with_reducible refine fact ?_ ?_; first | trivial | exact ⟨rfl, rfl⟩ | kernel_rfl) | with_reducible refine choT (by assumption) ?_ | with_reducible refine choF (by assumption) ?_ | with_reducible refine choF' (by assumption) ?_ | (with_reducible refine altT ?_ ?_; first | omega | (simp only [List.length_append, List.length_cons, List.length_nil, List.length_map, List.length_take, List.length_drop, List.length_replicate, List.length_set]; omega)) | with_reducible refine altF ?_ | with_reducible refine all fun _ => ?_ | with_reducible refine both ?_ ?_ | (with_reducible refine choT ?_ ?_; omega) | (with_reducible refine choF ?_ ?_; omega) | with_reducible refine cho (fun _ => ?_) (fun _ => ?_))
  exact ⟨_, _, _, rfl, Sub.app_nil _, rfl, rfl⟩
instance {b : Int} {l : List UInt8} : PC Go.Proofs.Try.prog 72 [I .i64 b, S l] (l.length ≤ 10000000000000) (dgA (leafD b l)) := ⟨fun hl => PC.of (ref05_Leaf_ok b l hl)⟩
theorem ref05_Node_ok (b : Int) (l r : List UInt8) [hl : Len32 l] [hr : Len32 r] : aPure Go.Proofs.Try.prog 74 [I .i64 b, dgA l, dgA r] (dgA (nodeD b l r)) := by
  refine ACalls.fin (ref05_Node.go ?_)
  unfold ref05_Node.sh
  have h1 := hl.len
  have h2 := hr.len
  have h32 := kept_length ([1] ++ l ++ r) b
  repeat' (first | with_reducible apply Stp.go | with_reducible refine imp fun _ => ?_ | (with_reducible refine hyp ?_ ?_; first | assumption | exact leftT_mem (by assumption)) | (with_reducible refine need ?_ ?_; first | trivial | omega | exact ⟨by assumption, by omega⟩ | (simp only [List.length_append, List.length_cons, List.length_nil, List.length_map, List.length_take, List.length_drop, List.length_replicate, List.length_set]; omega)) | (with_reducible refine fact ?_ ?_; first | trivial | exact ⟨rfl, rfl⟩ | kernel_rfl) | with_reducible refine choT (by assumption) ?_ | with_reducible refine choF (by assumption) ?_ | with_reducible refine choF' (by assumption) ?_ | (with_reducible refine altT ?_ ?_; first | omega | (simp only [List.length_append, List.length_cons, List.length_nil, List.length_map, List.length_take, List.length_drop, List.length_replicate, List.length_set]; omega)) | with_reducible refine altF ?_ | with_reducible refine all fun _ => ?_ | with_reducible refine both ?_ ?_ | (with_reducible refine choT ?_ ?_; omega) | (with_reducible refine choF ?_ ?_; omega) | with_reducible refine cho (fun _ => ?_) (fun _ => ?_))
  exact ⟨_, _, _, rfl, Sub.app_nil _, rfl, rfl⟩
instance {l r : List UInt8} {b : Int} [hl : Len32 l] [hr : Len32 r] : PC Go.Proofs.Try.prog 74 [I .i64 b, dgA l, dgA r] True (dgA (nodeD b l r)) := ⟨fun _ => PC.of (ref05_Node_ok b l r)⟩
theorem ref05_Half_ok (n : Nat) (hn : n ≤ 9223372036854775807) : aPure Go.Proofs.Try.prog 73 [I .i64 (n : Nat)] (I .i64 (halfN n : Nat)) := by
  refine ref05_Half.go ?_
  unfold ref05_Half.sh
  repeat' (first | with_reducible apply Stp.go | with_reducible refine imp fun _ => ?_ | (with_reducible refine hyp ?_ ?_; first | assumption | exact leftT_mem (by assumption)) | (with_reducible refine need ?_ ?_; first | trivial | omega | exact ⟨by assumption, by omega⟩ | (simp only [List.length_append, List.length_cons, List.length_nil, List.length_map, List.length_take, List.length_drop, List.length_replicate, List.length_set]; omega)) | (with_reducible refine fact ?_ ?_; first | trivial | exact ⟨rfl, rfl⟩ | kernel_rfl) | with_reducible refine choT (by assumption) ?_ | with_reducible refine choF (by assumption) ?_ | with_reducible refine choF' (by assumption) ?_ | (with_reducible refine altT ?_ ?_; first | omega | (simp only [List.length_append, List.length_cons, List.length_nil, List.length_map, List.length_take, List.length_drop, List.length_replicate, List.length_set]; omega)) | with_reducible refine altF ?_ | with_reducible refine all fun _ => ?_ | with_reducible refine both ?_ ?_ | (with_reducible refine choT ?_ ?_; omega) | (with_reducible refine choF ?_ ?_; omega) | with_reducible refine cho (fun _ => ?_) (fun _ => ?_))
  refine loopI (β := Nat) (fun k => 0 < k ∧ (k = 1 ∨ k ≤ n) ∧ halfGo n k = halfN n) (fun k => [I .i64 (n : Nat), I .i64 (k : Nat)]) (fun _ => []) (fun k => n - k) 1 ⟨by omega, by omega, rfl⟩ (Sub.refl _ _) ?_
  rintro k ⟨h1, h2, h3⟩
  dsimp only at h1 h2 h3 ⊢
  repeat' (first | with_reducible apply Stp.go | with_reducible refine imp fun _ => ?_ | (with_reducible refine hyp ?_ ?_; first | assumption | exact leftT_mem (by assumption)) | (with_reducible refine need ?_ ?_; first | trivial | omega | exact ⟨by assumption, by omega⟩ | (simp only [List.length_append, List.length_cons, List.length_nil, List.length_map, List.length_take, List.length_drop, List.length_replicate, List.length_set]; omega)) | (with_reducible refine fact ?_ ?_; first | trivial | exact ⟨rfl, rfl⟩ | kernel_rfl) | with_reducible refine choT (by assumption) ?_ | with_reducible refine choF (by assumption) ?_ | with_reducible refine choF' (by assumption) ?_ | (with_reducible refine altT ?_ ?_; first | omega | (simp only [List.length_append, List.length_cons, List.length_nil, List.length_map, List.length_take, List.length_drop, List.length_replicate, List.length_set]; omega)) | with_reducible refine altF ?_ | with_reducible refine all fun _ => ?_ | with_reducible refine both ?_ ?_ | (with_reducible refine choT ?_ ?_; omega) | (with_reducible refine choF ?_ ?_; omega) | with_reducible refine cho (fun _ => ?_) (fun _ => ?_))
  · rename_i h4
    have e : halfGo n k = halfGo n (k * 2) := by
      conv => lhs; unfold halfGo
      rw [dif_pos ⟨h1, by omega⟩]
    exact again (k * 2) (by omega) ⟨by omega, by omega, e.symm.trans h3⟩ (Sub.refl _ _)
  · rename_i h4
    have e : halfGo n k = k := by
      unfold halfGo
      rw [dif_neg (by omega)]
    rw [← h3, e]
    exact ⟨rfl, rfl⟩
instance {n : Nat} : PC Go.Proofs.Try.prog 73 [I .i64 (n : Nat)] (n ≤ 9223372036854775807) (I .i64 (halfN n : Nat)) := ⟨fun hl => PC.of (ref05_Half_ok n hl)⟩
theorem ref05_Root_ok (bits : Int) : ∀ (n : Nat) (L : List (List UInt8)) (m : SM), L.length = n → L.length ≤ 1000000 → (∀ b ∈ L, b.length ≤ 10000000000000) → aPure Go.Proofs.Try.prog 48 [I .i64 bits, .lst 1 (L.map tx) m] (dgA (rootD bits L)) := by
  intro n
  induction n using Nat.strongRecOn with
  | _ n ih =>
    intro L m hn hL hb
    refine ACalls.fin (ref05_Root.go ?_)
    unfold ref05_Root.sh
    have inst : ∀ (L' : List (List UInt8)) (m' : SM), PC Go.Proofs.Try.prog 48 [I .i64 bits, .lst 1 (L'.map tx) m'] (L'.length < n ∧ L'.length ≤ 1000000 ∧ ∀ b ∈ L', b.length ≤ 10000000000000) (dgA (rootD bits L')) := fun L' m' => ⟨fun h => PC.of (ih L'.length h.1 L' m' rfl h.2.1 h.2.2)⟩
    have h32 := rootD_len bits L
    have k32 := kept_length [] bits
    by_cases h0 : L.length = 0
    · have e : rootD bits L = kept [] bits := by unfold rootD; rw [dif_pos h0]
      rw [e] at h32 ⊢
      repeat' (first | with_reducible apply Stp.go | with_reducible refine imp fun _ => ?_ | (with_reducible refine hyp ?_ ?_; first | assumption | exact leftT_mem (by assumption)) | (with_reducible refine need ?_ ?_; first | trivial | omega | exact ⟨by assumption, by omega⟩ | (simp only [List.length_append, List.length_cons, List.length_nil, List.length_map, List.length_take, List.length_drop, List.length_replicate, List.length_set]; omega)) | (with_reducible refine fact ?_ ?_; first | trivial | exact ⟨rfl, rfl⟩ | kernel_rfl) | with_reducible refine choT (by assumption) ?_ | with_reducible refine choF (by assumption) ?_ | with_reducible refine choF' (by assumption) ?_ | (with_reducible refine altT ?_ ?_; first | omega | (simp only [List.length_append, List.length_cons, List.length_nil, List.length_map, List.length_take, List.length_drop, List.length_replicate, List.length_set]; omega)) | with_reducible refine altF ?_ | with_reducible refine all fun _ => ?_ | with_reducible refine both ?_ ?_ | (with_reducible refine choT ?_ ?_; omega) | (with_reducible refine choF ?_ ?_; omega) | with_reducible refine cho (fun _ => ?_) (fun _ => ?_))
      exact ⟨_, _, _, rfl, Sub.app_nil _, rfl, rfl⟩
    · by_cases h1 : L.length = 1
      · have e : rootD bits L = leafD bits (L.getD 0 default) := by unfold rootD; rw [dif_neg h0, dif_pos h1]
        have hb0 : (L.getD 0 default).length ≤ 10000000000000 := hb _ (by rw [List.getD_eq_getElem?_getD, List.getElem?_eq_getElem (by omega)]; exact List.getElem_mem _)
        rw [e] at h32 ⊢
        repeat' (first | with_reducible apply Stp.go | with_reducible refine imp fun _ => ?_ | (with_reducible refine hyp ?_ ?_; first | assumption | exact leftT_mem (by assumption)) | (with_reducible refine need ?_ ?_; first | trivial | omega | exact ⟨by assumption, by omega⟩ | (simp only [List.length_append, List.length_cons, List.length_nil, List.length_map, List.length_take, List.length_drop, List.length_replicate, List.length_set]; omega)) | (with_reducible refine fact ?_ ?_; first | trivial | exact ⟨rfl, rfl⟩ | kernel_rfl) | with_reducible refine choT (by assumption) ?_ | with_reducible refine choF (by assumption) ?_ | with_reducible refine choF' (by assumption) ?_ | (with_reducible refine altT ?_ ?_; first | omega | (simp only [List.length_append, List.length_cons, List.length_nil, List.length_map, List.length_take, List.length_drop, List.length_replicate, List.length_set]; omega)) | with_reducible refine altF ?_ | with_reducible refine all fun _ => ?_ | with_reducible refine both ?_ ?_ | (with_reducible refine choT ?_ ?_; omega) | (with_reducible refine choF ?_ ?_; omega) | with_reducible refine cho (fun _ => ?_) (fun _ => ?_))
        exact ⟨_, _, _, rfl, Sub.app_nil _, rfl, rfl⟩
      · have hh := halfN_lt (n := L.length) (by omega)
        have e : rootD bits L = nodeD bits (rootD bits (L.take (halfN L.length))) (rootD bits (L.drop (halfN L.length))) := by
          conv => lhs; unfold rootD
          rw [dif_neg h0, dif_neg h1]
        have t32 := rootD_len bits (L.take (halfN L.length))
        have d32 := rootD_len bits (L.drop (halfN L.length))
        have p1 : (L.take (halfN L.length)).length < n ∧ (L.take (halfN L.length)).length ≤ 1000000 ∧ ∀ b ∈ L.take (halfN L.length), b.length ≤ 10000000000000 := ⟨by simp; omega, by simp; omega, fun b h => hb b (List.mem_of_mem_take h)⟩
        have p2 : (L.drop (halfN L.length)).length < n ∧ (L.drop (halfN L.length)).length ≤ 1000000 ∧ ∀ b ∈ L.drop (halfN L.length), b.length ≤ 10000000000000 := ⟨by simp; omega, by simp; omega, fun b h => hb b (List.mem_of_mem_drop h)⟩
        rw [e] at h32 ⊢
        repeat' (first | with_reducible apply Stp.go | with_reducible refine imp fun _ => ?_ | (with_reducible refine hyp ?_ ?_; first | assumption | exact leftT_mem (by assumption)) | (with_reducible refine need ?_ ?_; first | trivial | omega | exact ⟨by assumption, by omega⟩ | (simp only [List.length_append, List.length_cons, List.length_nil, List.length_map, List.length_take, List.length_drop, List.length_replicate, List.length_set]; omega)) | (with_reducible refine fact ?_ ?_; first | trivial | exact ⟨rfl, rfl⟩ | kernel_rfl) | with_reducible refine choT (by assumption) ?_ | with_reducible refine choF (by assumption) ?_ | with_reducible refine choF' (by assumption) ?_ | (with_reducible refine altT ?_ ?_; first | omega | (simp only [List.length_append, List.length_cons, List.length_nil, List.length_map, List.length_take, List.length_drop, List.length_replicate, List.length_set]; omega)) | with_reducible refine altF ?_ | with_reducible refine all fun _ => ?_ | with_reducible refine both ?_ ?_ | (with_reducible refine choT ?_ ?_; omega) | (with_reducible refine choF ?_ ?_; omega) | with_reducible refine cho (fun _ => ?_) (fun _ => ?_))
        exact ⟨_, _, _, rfl, Sub.app_nil _, rfl, rfl⟩
instance {a : AV} {L : List (List UInt8)} {m : SM} {b : Int} [h : IsL a tx 1 L m] : PC Go.Proofs.Try.prog 48 [I .i64 b, a] (L.length ≤ 1000000 ∧ ∀ b ∈ L, b.length ≤ 10000000000000) (dgA (rootD b L)) := ⟨fun hl => ⟨[I .i64 b, .lst 1 (L.map tx) m], ⟨SubV.refl _, h.sub, trivial⟩, ref05_Root_ok b _ L m rfl hl.1 hl.2⟩⟩
end Go.Ab

/- ref11.Leaves, ref11.Describe. -/
set_option linter.unusedVariables false
set_option linter.unusedSimpArgs false
namespace Go.Ab
def ref11_Leaves.mark : Mark := ⟨fun t => Nat.beq t 16, fun t => false, fun t => false, fun t => Nat.beq t 15, fun t => false⟩
def ref11_Leaves.ann : Ann := ⟨fun n => bif Nat.beq n 3 then [0, 3, 4] else [], fun n => none, fun n => none⟩
/-- 'marlstone/marlstoneref11.Leaves' -/
def ref11_Leaves.sh (a0 : AV) (σ : Store) (Q : AEnd → Store → Prop) : Prop :=
  aLoop (fun go vs σ =>
    At vs 0 fun s0 => At vs 1 fun s3 => At vs 2 fun s4 => Do (aBuiltin Go.Proofs.Try.prog .len #[23] [s0]) fun t7 =>
    Do (aBin Go.Proofs.Try.prog .lss 3 s4 t7) fun t8 =>
    aCond t8
      (Do (aIndexAddr .slice 4 s0 s4) fun t14 =>
    Do (loadF true 4 t14) fun t15 =>
    Do (aPureC Go.Proofs.Try.prog 75 [t15]) fun t16 =>
    Do (aSlLit (mkE [.val (.string ⟨#[]⟩)]) 1 1 [(0, t16)]) fun t17 =>
    aAppend 9 1 16 s3 t17 σ (subK fun t18 σ_1 =>
    Do (aBin Go.Proofs.Try.prog .add 3 s4 (.val (.int .i64 1))) fun t10 =>
    go [s0, t18, t10] σ_1))
      (Q (.ret s3) σ))
    [a0, (.val (.slice none 0 0)), (.val (.int .i64 0))] σ
theorem ref11_Leaves.eq (a0 : AV) (σ : Store) (Q : AEnd → Store → Prop) : vc (semOf Go.Proofs.Try.prog ref11_Leaves.mark) Go.Proofs.Try.f49.ntmps ref11_Leaves.ann (bodyOf Go.Proofs.Try.f49) (endK [.tmp 2] Q) (argFr [a0]) σ = ref11_Leaves.sh a0 σ Q := by kernel_rfl
theorem ref11_Leaves.go {a0 : AV} {σ : Store} {Q : AEnd → Store → Prop} (h : ref11_Leaves.sh a0 σ Q) : ACalls Go.Proofs.Try.prog 49 [a0] σ Q :=
  acalls_of_eq [.tmp 2] Go.Proofs.Try.func49 (by kernel_rfl) (by kernel_rfl) (by kernel_rfl) (by kernel_rfl) (ref11_Leaves.eq a0 σ Q) h
def ref11_Describe.mark : Mark := ⟨fun t => Nat.beq t 10 || Nat.beq t 27 || Nat.beq t 28, fun t => false, fun t => false, fun t => Nat.beq t 32 || Nat.beq t 39, fun t => false⟩
def ref11_Describe.ann : Ann := ⟨fun n => [], fun n => none, fun n => none⟩
/-- 'marlstone/marlstoneref11.Describe' -/
def ref11_Describe.sh (a0 a1 a2 : AV) (σ : Store) (Q : AEnd → Store → Prop) : Prop :=
  aNewVar 39 [.val (.int .i64 0), .val (.int .i64 0), .val (.int .u8 0), .val (.int .u8 0), .val (.int .u8 0), .val (.int .u8 0), .val (.int .u8 0), .val (.int .u8 0), .val (.int .u8 0), .val (.int .u8 0), .val (.int .u8 0), .val (.int .u8 0), .val (.int .u8 0), .val (.int .u8 0), .val (.int .u8 0), .val (.int .u8 0), .val (.int .u8 0), .val (.int .u8 0), .val (.int .u8 0), .val (.int .u8 0), .val (.int .u8 0), .val (.int .u8 0), .val (.int .u8 0), .val (.int .u8 0), .val (.int .u8 0), .val (.int .u8 0), .val (.int .u8 0), .val (.int .u8 0), .val (.int .u8 0), .val (.int .u8 0), .val (.int .u8 0), .val (.int .u8 0), .val (.int .u8 0), .val (.int .u8 0), .val (.string ⟨#[]⟩), .val (.string ⟨#[]⟩)] σ fun t6 σ =>
  Do (aPureC Go.Proofs.Try.prog 24 [a2]) fun t10 =>
  Do (aUn Go.Proofs.Try.prog .not t10) fun t12 =>
  Do (aGuard t12 false (aIs a1)) fun t14 =>
  Do (aGuard t12 false (aBin Go.Proofs.Try.prog .lss 3 t14 (.val (.int .i64 0)))) fun t15 =>
  Do (aPick t12 (.val (.bool true)) t15) fun t16 =>
  Do (aGuard t16 false (aIs a1)) fun t18 =>
  Do (aGuard t16 false (aBin Go.Proofs.Try.prog .geq 3 t18 (.val (.int .i64 4)))) fun t19 =>
  Do (aPick t16 (.val (.bool true)) t19) fun t20 =>
  aCond t20
    (Do (aLit [.val (.int .i64 0), .val (.int .i64 0), .val (.int .u8 0), .val (.int .u8 0), .val (.int .u8 0), .val (.int .u8 0), .val (.int .u8 0), .val (.int .u8 0), .val (.int .u8 0), .val (.int .u8 0), .val (.int .u8 0), .val (.int .u8 0), .val (.int .u8 0), .val (.int .u8 0), .val (.int .u8 0), .val (.int .u8 0), .val (.int .u8 0), .val (.int .u8 0), .val (.int .u8 0), .val (.int .u8 0), .val (.int .u8 0), .val (.int .u8 0), .val (.int .u8 0), .val (.int .u8 0), .val (.int .u8 0), .val (.int .u8 0), .val (.int .u8 0), .val (.int .u8 0), .val (.int .u8 0), .val (.int .u8 0), .val (.int .u8 0), .val (.int .u8 0), .val (.int .u8 0), .val (.int .u8 0), .val (.string ⟨#[]⟩), .val (.string ⟨#[]⟩)] [(0, 1), (1, 1), (2, 32), (34, 1), (35, 1)] []) fun t21 =>
    storeA 36 t6 t21 σ fun u σ_1 =>
    Do (loadA true 36 t6 σ_1) fun r6 => Q (.ret (.tuple [r6, (.val (.int .i64 1))])) σ_1)
    (Do (aBuiltin Go.Proofs.Try.prog .len #[23] [a2]) fun t24 =>
  Do (aPureC Go.Proofs.Try.prog 49 [a2]) fun t27 =>
  Do (aPureC Go.Proofs.Try.prog 48 [a0, t27]) fun t28 =>
  Do (aIndexAddr .slice 4 a2 (.val (.int .i64 0))) fun t30 =>
  Do (aFieldAddr 0 1 t30) fun t31 =>
  Do (loadF false 1 t31) fun t32 =>
  Do (aBuiltin Go.Proofs.Try.prog .len #[23] [a2]) fun t35 =>
  Do (aBin Go.Proofs.Try.prog .sub 3 t35 (.val (.int .i64 1))) fun t36 =>
  Do (aIndexAddr .slice 4 a2 t36) fun t37 =>
  Do (aFieldAddr 0 1 t37) fun t38 =>
  Do (loadF false 1 t38) fun t39 =>
  Do (aLit [.val (.int .i64 0), .val (.int .i64 0), .val (.int .u8 0), .val (.int .u8 0), .val (.int .u8 0), .val (.int .u8 0), .val (.int .u8 0), .val (.int .u8 0), .val (.int .u8 0), .val (.int .u8 0), .val (.int .u8 0), .val (.int .u8 0), .val (.int .u8 0), .val (.int .u8 0), .val (.int .u8 0), .val (.int .u8 0), .val (.int .u8 0), .val (.int .u8 0), .val (.int .u8 0), .val (.int .u8 0), .val (.int .u8 0), .val (.int .u8 0), .val (.int .u8 0), .val (.int .u8 0), .val (.int .u8 0), .val (.int .u8 0), .val (.int .u8 0), .val (.int .u8 0), .val (.int .u8 0), .val (.int .u8 0), .val (.int .u8 0), .val (.int .u8 0), .val (.int .u8 0), .val (.int .u8 0), .val (.string ⟨#[]⟩), .val (.string ⟨#[]⟩)] [(0, 1), (1, 1), (2, 32), (34, 1), (35, 1)] [(0, a1), (1, t24), (2, t28), (3, t32), (4, t39)]) fun t40 =>
  storeA 36 t6 t40 σ fun u_1 σ_2 =>
  Do (loadA true 36 t6 σ_2) fun r6_1 => Q (.ret (.tuple [r6_1, (.val (.int .i64 0))])) σ_2)
theorem ref11_Describe.eq (a0 a1 a2 : AV) (σ : Store) (Q : AEnd → Store → Prop) : vc (semOf Go.Proofs.Try.prog ref11_Describe.mark) Go.Proofs.Try.f25.ntmps ref11_Describe.ann (bodyOf Go.Proofs.Try.f25) (endK [.cell 6 true 36, .tmp 7] Q) (argFr [a0, a1, a2]) σ = ref11_Describe.sh a0 a1 a2 σ Q := by kernel_rfl
theorem ref11_Describe.go {a0 a1 a2 : AV} {σ : Store} {Q : AEnd → Store → Prop} (h : ref11_Describe.sh a0 a1 a2 σ Q) : ACalls Go.Proofs.Try.prog 25 [a0, a1, a2] σ Q :=
  acalls_of_eq [.cell 6 true 36, .tmp 7] Go.Proofs.Try.func25 (by kernel_rfl) (by kernel_rfl) (by kernel_rfl) (by kernel_rfl) (ref11_Describe.eq a0 a1 a2 σ Q) h
theorem ref11_Leaves_ok (l : List En) (m : SM) (hl : l.length ≤ 1000000) : aPure Go.Proofs.Try.prog 49 [.lst 4 (l.map En.av) m] (.lst 1 ((l.map enB).map tx) .ro) := by
  refine ACalls.fin (ref11_Leaves.go ?_)
  unfold ref11_Leaves.sh
  repeat' (first | with_reducible apply Stp.go | with_reducible refine imp fun _ => ?_ | (with_reducible refine hyp ?_ ?_; first | assumption | exact leftT_mem (by assumption)) | (with_reducible refine need ?_ ?_; first | trivial | omega | exact ⟨by assumption, by omega⟩ | (simp only [List.length_append, List.length_cons, List.length_nil, List.length_map, List.length_take, List.length_drop, List.length_replicate, List.length_set]; omega)) | (with_reducible refine fact ?_ ?_; first | trivial | exact ⟨rfl, rfl⟩ | kernel_rfl) | with_reducible refine choT (by assumption) ?_ | with_reducible refine choF (by assumption) ?_ | with_reducible refine choF' (by assumption) ?_ | (with_reducible refine altT ?_ ?_; first | omega | (simp only [List.length_append, List.length_cons, List.length_nil, List.length_map, List.length_take, List.length_drop, List.length_replicate, List.length_set]; omega)) | with_reducible refine altF ?_ | with_reducible refine all fun _ => ?_ | with_reducible refine both ?_ ?_ | (with_reducible refine choT ?_ ?_; omega) | (with_reducible refine choF ?_ ?_; omega) | with_reducible refine cho (fun _ => ?_) (fun _ => ?_))
  refine loopI (β := Nat × Value) (fun x => x.1 ≤ l.length) (fun x => [.lst 4 (l.map En.av) m, .own x.2 ((l.take x.1).map enB).length, I .i64 (x.1 : Nat)]) (fun x => [.row x.2 9 1 (((l.take x.1).map enB).map tx) 0]) (fun x => l.length - x.1) (0, .slice none 0 0) (Nat.zero_le _) (Sub.nil_own 9 (sz := 1) (by decide) [] [.lst 4 (l.map En.av) m] [I .i64 ((0 : Nat) : Int)]) ?_
  rintro ⟨i, v⟩ h1
  dsimp only at h1 ⊢
  by_cases hi : i < l.length
  · have hk : ((l.take i).map enB).length ≤ l.length := by simp; omega
    have e : (l.take (i + 1)).map enB = (l.take i).map enB ++ [enB (l.getD i default)] := by rw [take_succ_d (by omega), List.map_append]; rfl
    repeat' (first | with_reducible apply Stp.go | with_reducible refine imp fun _ => ?_ | (with_reducible refine hyp ?_ ?_; first | assumption | exact leftT_mem (by assumption)) | (with_reducible refine need ?_ ?_; first | trivial | omega | exact ⟨by assumption, by omega⟩ | (simp only [List.length_append, List.length_cons, List.length_nil, List.length_map, List.length_take, List.length_drop, List.length_replicate, List.length_set]; omega)) | (with_reducible refine fact ?_ ?_; first | trivial | exact ⟨rfl, rfl⟩ | kernel_rfl) | with_reducible refine choT (by assumption) ?_ | with_reducible refine choF (by assumption) ?_ | with_reducible refine choF' (by assumption) ?_ | (with_reducible refine altT ?_ ?_; first | omega | (simp only [List.length_append, List.length_cons, List.length_nil, List.length_map, List.length_take, List.length_drop, List.length_replicate, List.length_set]; omega)) | with_reducible refine altF ?_ | with_reducible refine all fun _ => ?_ | with_reducible refine both ?_ ?_ | (with_reducible refine choT ?_ ?_; omega) | (with_reducible refine choF ?_ ?_; omega) | with_reducible refine cho (fun _ => ?_) (fun _ => ?_))
    rename_i w
    refine again (i + 1, w) (by dsimp only; omega) (by dsimp only; omega) ?_
    dsimp only
    rw [e]
    exact Sub.refl _ _
  · have e1 : i = l.length := by omega
    subst e1
    rw [List.take_length]
    repeat' (first | with_reducible apply Stp.go | with_reducible refine imp fun _ => ?_ | (with_reducible refine hyp ?_ ?_; first | assumption | exact leftT_mem (by assumption)) | (with_reducible refine need ?_ ?_; first | trivial | omega | exact ⟨by assumption, by omega⟩ | (simp only [List.length_append, List.length_cons, List.length_nil, List.length_map, List.length_take, List.length_drop, List.length_replicate, List.length_set]; omega)) | (with_reducible refine fact ?_ ?_; first | trivial | exact ⟨rfl, rfl⟩ | kernel_rfl) | with_reducible refine choT (by assumption) ?_ | with_reducible refine choF (by assumption) ?_ | with_reducible refine choF' (by assumption) ?_ | (with_reducible refine altT ?_ ?_; first | omega | (simp only [List.length_append, List.length_cons, List.length_nil, List.length_map, List.length_take, List.length_drop, List.length_replicate, List.length_set]; omega)) | with_reducible refine altF ?_ | with_reducible refine all fun _ => ?_ | with_reducible refine both ?_ ?_ | (with_reducible refine choT ?_ ?_; omega) | (with_reducible refine choF ?_ ?_; omega) | with_reducible refine cho (fun _ => ?_) (fun _ => ?_))
    exact ⟨_, _, _, rfl, retOwn (Sub.refl _ _), rfl, rfl⟩
instance {a : AV} {l : List En} {m : SM} [h : IsL a En.av 4 l m] : PC Go.Proofs.Try.prog 49 [a] (l.length ≤ 1000000) (.lst 1 ((l.map enB).map tx) .ro) := ⟨fun hl => ⟨[.lst 4 (l.map En.av) m], ⟨h.sub, trivial⟩, ref11_Leaves_ok l m hl⟩⟩
theorem ref11_Describe_ok (b : Int) (lev : Nat) (l : List En) (m : SM) (hl : l.length ≤ 1000000) (hv : lev ≤ 1000) : aPure Go.Proofs.Try.prog 25 [I .i64 b, I .i64 (lev : Nat), .lst 4 (l.map En.av) m] (.tuple [tabA (dLev lev l : Nat) (dCnt lev l : Nat) (dRoot b lev l) (dFst lev l) (dLst lev l), I .i64 (dErr lev l : Nat)]) := by
  refine ACalls.fin (ref11_Describe.go ?_)
  unfold ref11_Describe.sh
  have hb : (l.map enB).length ≤ 1000000 ∧ ∀ b ∈ l.map enB, b.length ≤ 10000000000000 := ⟨by simpa using hl, fun b h => by
    obtain ⟨e, _, rfl⟩ := List.mem_map.1 h
    have := enB_length e
    omega⟩
  by_cases hf : dFit lev l = true
  · have h1 := hf
    unfold dFit at h1
    simp only [Bool.and_eq_true, decide_eq_true_eq] at h1
    obtain ⟨hfit, h4⟩ := h1
    have h0 : 0 < l.length := (fit_right hfit).2.1
    unfold dLev dCnt dRoot dFst dLst dErr
    simp only [if_pos hf]
    repeat' (first | with_reducible apply Stp.go | with_reducible refine imp fun _ => ?_ | (with_reducible refine hyp ?_ ?_; first | assumption | exact leftT_mem (by assumption)) | (with_reducible refine need ?_ ?_; first | trivial | omega | exact ⟨by assumption, by omega⟩ | (simp only [List.length_append, List.length_cons, List.length_nil, List.length_map, List.length_take, List.length_drop, List.length_replicate, List.length_set]; omega)) | (with_reducible refine fact ?_ ?_; first | trivial | exact ⟨rfl, rfl⟩ | kernel_rfl) | with_reducible refine choT (by assumption) ?_ | with_reducible refine choF (by assumption) ?_ | with_reducible refine choF' (by assumption) ?_ | (with_reducible refine altT ?_ ?_; first | omega | (simp only [List.length_append, List.length_cons, List.length_nil, List.length_map, List.length_take, List.length_drop, List.length_replicate, List.length_set]; omega)) | with_reducible refine altF ?_ | with_reducible refine all fun _ => ?_ | with_reducible refine both ?_ ?_ | (with_reducible refine choT ?_ ?_; omega) | (with_reducible refine choF ?_ ?_; omega) | with_reducible refine cho (fun _ => ?_) (fun _ => ?_))
    refine litTab rfl rfl ?_
    repeat' (first | with_reducible apply Stp.go | with_reducible refine imp fun _ => ?_ | (with_reducible refine hyp ?_ ?_; first | assumption | exact leftT_mem (by assumption)) | (with_reducible refine need ?_ ?_; first | trivial | omega | exact ⟨by assumption, by omega⟩ | (simp only [List.length_append, List.length_cons, List.length_nil, List.length_map, List.length_take, List.length_drop, List.length_replicate, List.length_set]; omega)) | (with_reducible refine fact ?_ ?_; first | trivial | exact ⟨rfl, rfl⟩ | kernel_rfl) | with_reducible refine choT (by assumption) ?_ | with_reducible refine choF (by assumption) ?_ | with_reducible refine choF' (by assumption) ?_ | (with_reducible refine altT ?_ ?_; first | omega | (simp only [List.length_append, List.length_cons, List.length_nil, List.length_map, List.length_take, List.length_drop, List.length_replicate, List.length_set]; omega)) | with_reducible refine altF ?_ | with_reducible refine all fun _ => ?_ | with_reducible refine both ?_ ?_ | (with_reducible refine choT ?_ ?_; omega) | (with_reducible refine choF ?_ ?_; omega) | with_reducible refine cho (fun _ => ?_) (fun _ => ?_))
    exact ⟨_, _, _, rfl, Sub.app_nil _, rfl, rfl⟩
  · unfold dLev dCnt dRoot dFst dLst dErr
    simp only [if_neg hf]
    have hcon : ¬ (fit l = true ∧ lev < 4) := by
      intro h
      apply hf
      unfold dFit
      rw [h.1, decide_eq_true h.2]; rfl
    repeat' (first | with_reducible apply Stp.go | with_reducible refine imp fun _ => ?_ | (with_reducible refine hyp ?_ ?_; first | assumption | exact leftT_mem (by assumption)) | (with_reducible refine need ?_ ?_; first | trivial | omega | exact ⟨by assumption, by omega⟩ | (simp only [List.length_append, List.length_cons, List.length_nil, List.length_map, List.length_take, List.length_drop, List.length_replicate, List.length_set]; omega)) | (with_reducible refine fact ?_ ?_; first | trivial | exact ⟨rfl, rfl⟩ | kernel_rfl) | with_reducible refine choT (by assumption) ?_ | with_reducible refine choF (by assumption) ?_ | with_reducible refine choF' (by assumption) ?_ | (with_reducible refine altT ?_ ?_; first | omega | (simp only [List.length_append, List.length_cons, List.length_nil, List.length_map, List.length_take, List.length_drop, List.length_replicate, List.length_set]; omega)) | with_reducible refine altF ?_ | with_reducible refine all fun _ => ?_ | with_reducible refine both ?_ ?_ | (with_reducible refine choT ?_ ?_; omega) | (with_reducible refine choF ?_ ?_; omega) | with_reducible refine cho (fun _ => ?_) (fun _ => ?_))
    all_goals first
      | (exfalso; apply hcon; refine ⟨?_, ?_⟩ <;> first | assumption | omega)
      | (refine (stTab (lev := 0) (n := 0) (d := zeroD) (f := []) (g := [])).go ?_
         repeat' (first | with_reducible apply Stp.go | with_reducible refine imp fun _ => ?_ | (with_reducible refine hyp ?_ ?_; first | assumption | exact leftT_mem (by assumption)) | (with_reducible refine need ?_ ?_; first | trivial | omega | exact ⟨by assumption, by omega⟩ | (simp only [List.length_append, List.length_cons, List.length_nil, List.length_map, List.length_take, List.length_drop, List.length_replicate, List.length_set]; omega)) | (with_reducible refine fact ?_ ?_; first | trivial | exact ⟨rfl, rfl⟩ | kernel_rfl) | with_reducible refine choT (by assumption) ?_ | with_reducible refine choF (by assumption) ?_ | with_reducible refine choF' (by assumption) ?_ | (with_reducible refine altT ?_ ?_; first | omega | (simp only [List.length_append, List.length_cons, List.length_nil, List.length_map, List.length_take, List.length_drop, List.length_replicate, List.length_set]; omega)) | with_reducible refine altF ?_ | with_reducible refine all fun _ => ?_ | with_reducible refine both ?_ ?_ | (with_reducible refine choT ?_ ?_; omega) | (with_reducible refine choF ?_ ?_; omega) | with_reducible refine cho (fun _ => ?_) (fun _ => ?_))
         exact ⟨_, _, _, rfl, Sub.app_nil _, rfl, rfl⟩)
      | trace_state
theorem refDesc {a : AV} {m : SM} {b x : Int} {l : List En} [h : IsL a En.av 4 l m] {lev : Nat} (hx : x = (lev : Nat)) (hf : fit l = true) (hv : lev < 4) : PC Go.Proofs.Try.prog 25 [I .i64 b, .val (.int .i64 x), a] True (.tuple [tabA x (l.length : Nat) (rootD b (l.map enB)) (l.getD 0 default).key (l.getD (l.length - 1) default).key, .val (.int .i64 0)]) := ⟨fun _ => by
  subst hx
  have h64 := (fit_right hf).1
  have hd : dFit lev l = true := by unfold dFit; rw [hf, decide_eq_true hv]; rfl
  have := ref11_Describe_ok b lev l m (by omega) (by omega)
  unfold dLev dCnt dRoot dFst dLst dErr at this
  simp only [if_pos hd] at this
  exact ⟨[I .i64 b, I .i64 (lev : Nat), .lst 4 (l.map En.av) m], ⟨SubV.refl _, SubV.refl _, h.sub, trivial⟩, this⟩⟩
end Go.Ab

/- What stands in memory at a start, read by its type: numbers, texts, slices, structs. No program in sight. -/
set_option linter.unusedVariables false
set_option linter.unusedSimpArgs false
namespace Go.Ab
variable {P : Program}
/-- Whatever is read at a type is told by something, in so many cells. -/
structure Rd (P : Program) (t : TypeId) {α : Type} (g : α → AV) (sz : Nat) (ok : α → Prop) : Prop where
  size : P.cellsOf t = sz
  pos : 0 < sz
  told : Told g sz
  read : ∀ {H : Type} {enc : TypeId × Value → H} {w : World} {base : Nat} {spare : Nat → Bool} {held : Bool} {n : Nat} {cs : List Value} {x : DataW H × List MemPlace}, DataW.trod enc P w base spare held n t cs = some x → ∃ a, ok a ∧ cs.length = sz ∧ VRs (roOf w) cs (g a).cells ∧ ∀ v ∈ cs, v.oneCell' = true
theorem VRs.one {R : RO} {v : Value} {u : AV} (h : VR R v u) : VRs R [v] [u] := VRs.cons h (VRs.nil R)
theorem VRs.head {R : RO} {v : Value} {u : AV} (h : VRs R [v] [u]) : VR R v u := h.2 0 u v rfl rfl
theorem told_one {α : Type} {g : α → AV} (h : ∀ a, (g a).cells = [g a] ∧ (g a).one = true) : Told g 1 := fun a => ⟨by rw [(h a).1]; rfl, fun c hc => by rw [(h a).1] at hc; rw [List.mem_singleton.1 hc]; exact (h a).2⟩
theorem Rd.int {t : TypeId} (ht : P.underlying t = some (.int .i64)) (hs : P.cellsOf t = 1) : Rd P t (fun n : Int => I .i64 n) 1 (fun n => (Lit.int .i64 n).wf = true) := ⟨hs, by decide, told_one fun _ => ⟨rfl, rfl⟩, fun h => by
  obtain ⟨k, e, _, hw⟩ := DataW.trod_int ht h
  subst e
  exact ⟨k, hw, rfl, VRs.one (.val _), fun v hv => by rw [List.mem_singleton.1 hv]; rfl⟩⟩
theorem Rd.byte {t : TypeId} (ht : P.underlying t = some (.int .u8)) (hs : P.cellsOf t = 1) : Rd P t byt 1 (fun _ => True) := ⟨hs, by decide, told_one fun _ => ⟨rfl, rfl⟩, fun h => by
  obtain ⟨k, e, _, hw⟩ := DataW.trod_int ht h
  subst e
  simp only [Lit.wf, Bool.and_eq_true, decide_eq_true_eq] at hw
  have h0 : (0 : Int) ≤ k := by have := hw.1; simpa [IntKind.min, IntKind.signed] using this
  have h255 : k ≤ 255 := by have := hw.2; simpa [IntKind.max, IntKind.signed, IntKind.bits] using this
  have e6 : ((UInt8.ofNat k.toNat).toNat : Int) = k := by rw [UInt8.toNat_ofNat']; omega
  refine ⟨UInt8.ofNat k.toNat, trivial, rfl, ?_, fun v hv => by rw [List.mem_singleton.1 hv]; rfl⟩
  have e7 : byt (UInt8.ofNat k.toNat) = .val (.int .u8 k) := by rw [byt, e6]
  rw [e7]
  exact VRs.one (.val _)⟩
theorem Rd.str {t : TypeId} (ht : P.underlying t = some .string) (hs : P.cellsOf t = 1) : Rd P t (fun l : List UInt8 => S l) 1 (fun l => l.length ≤ maxLen) := ⟨hs, by decide, told_one fun _ => ⟨rfl, rfl⟩, fun h => by
  obtain ⟨s, e, _, hl⟩ := DataW.trod_string ht h
  subst e
  exact ⟨s.data.toList, by simpa using hl, rfl, VRs.one (.val _), fun v hv => by rw [List.mem_singleton.1 hv]; rfl⟩⟩
theorem Rd.bool {t : TypeId} (ht : P.underlying t = some .bool) (hs : P.cellsOf t = 1) : Rd P t (fun b : Bool => B b) 1 (fun _ => True) := ⟨hs, by decide, told_one fun _ => ⟨rfl, rfl⟩, fun h => by
  obtain ⟨b, e, _⟩ := DataW.trod_bool ht h
  subst e
  exact ⟨b, trivial, rfl, VRs.one (.val _), fun v hv => by rw [List.mem_singleton.1 hv]; rfl⟩⟩
theorem flat_rel {α : Type} {g : α → AV} {R : RO} {V : Nat → List Value} {F : Nat → α} : ∀ is : List Nat, (∀ i ∈ is, VRs R (V i) (g (F i)).cells) → VRs R (is.flatMap V) (flat ((is.map F).map g))
  | [], _ => VRs.nil R
  | i :: is, h => by
    have := (h i List.mem_cons_self).append (flat_rel is fun j hj => h j (List.mem_cons_of_mem _ hj))
    simpa [flat] using this
theorem flatMap_get {V : Nat → List Value} {sz : Nat} (hz : 0 < sz) : ∀ (n j : Nat) (v : Value), (∀ i, i < n → (V i).length = sz) → ((List.range n).flatMap V)[j]? = some v → j / sz < n ∧ (V (j / sz))[j % sz]? = some v := by
  intro n
  induction n with
  | zero => intro j v _ h; simp at h
  | succ n ih =>
    intro j v hl h
    have hlen : ∀ m, m ≤ n → ((List.range m).flatMap V).length = m * sz := by
      intro m hm
      induction m with
      | zero => simp
      | succ m ihm => rw [List.range_succ, List.flatMap_append, List.length_append, ihm (by omega)]; simp [hl m (by omega), Nat.succ_mul]
    rw [List.range_succ, List.flatMap_append] at h
    by_cases hj : j < n * sz
    · rw [List.getElem?_append_left (by rw [hlen n (Nat.le_refl _)]; exact hj)] at h
      obtain ⟨h1, h2⟩ := ih j v (fun i hi => hl i (by omega)) h
      exact ⟨by omega, h2⟩
    · rw [List.getElem?_append_right (by rw [hlen n (Nat.le_refl _)]; omega), hlen n (Nat.le_refl _)] at h
      simp only [List.flatMap_cons, List.flatMap_nil, List.append_nil] at h
      have h3 : j - n * sz < sz := by
        have h4 := (List.getElem?_eq_some_iff.1 h).1
        rw [hl n (by omega)] at h4
        exact h4
      have hd : j / sz = n := by
        have : j = sz * n + (j - n * sz) := by rw [Nat.mul_comm sz n]; omega
        rw [this, Nat.mul_add_div hz, Nat.div_eq_of_lt h3, Nat.add_zero]
      have hm : j % sz = j - n * sz := by
        have := Nat.div_add_mod j sz
        rw [hd, Nat.mul_comm] at this
        omega
      rw [hd, hm]
      exact ⟨by omega, h⟩
theorem Rd.slice {α : Type} [Inhabited α] {g : α → AV} {sz : Nat} {ok : α → Prop} {t e : TypeId} (he : Rd P e g sz ok) (ht : P.underlying t = some (.slice e)) (hs : P.cellsOf t = 1) : Rd P t (fun l : List α => .lst sz (l.map g) .ro) 1 (fun l => (∀ a ∈ l, ok a) ∧ l.length ≤ maxLen) := ⟨hs, by decide, told_one fun _ => ⟨rfl, rfl⟩, fun {H enc w base spare held n cs x} h => by
  rcases Deep.open_slice ht h with ⟨hcs, hx⟩ | ⟨a, len, cap, m, n', D, Pl, hcs, hb, hl, hm, hmm, hx, hel⟩
  · subst hcs
    exact ⟨[], ⟨by simp, Nat.zero_le _⟩, rfl, VRs.one (.lst [] rfl he.pos (by simp) rfl (by simp) (by simp) (by simp [SMok]) (Nat.zero_le _) (by simp)), fun v hv => by rw [List.mem_singleton.1 hv]; rfl⟩
  · subst hcs
    have hle : len ≤ m := by rw [hmm]; split <;> omega
    have hex : ∀ i, i < len → ∃ f : α × List Value, ok f.1 ∧ f.2.length = sz ∧ VRs (roOf w) f.2 (g f.1).cells ∧ (∀ v ∈ f.2, v.oneCell' = true) ∧ ∀ r, r < sz → w.cell? ((a.add (i * sz)).add r) = f.2[r]? := by
      intro i hi
      obtain ⟨cs', h1, h2⟩ := hel i (by omega)
      obtain ⟨f, k1, k2, k3, k4⟩ := he.read h2
      rw [he.size] at h1
      obtain ⟨_, _, h3⟩ := World.cells?_some h1
      exact ⟨(f, cs'), k1, k2, k3, k4, h3⟩
    obtain ⟨F, hF⟩ := Deep.choose_lt hex
    refine ⟨(List.range len).map fun i => (F i).1, ⟨fun a ha => ?_, by simp; omega⟩, rfl, VRs.one ?_, fun v hv => by rw [List.mem_singleton.1 hv]; rfl⟩
    · obtain ⟨i, hi, rfl⟩ := List.mem_map.1 ha
      exact (hF i (List.mem_range.1 hi)).1
    · have hrel := flat_rel (g := g) (R := roOf w) (V := fun i => (F i).2) (F := fun i => (F i).1) (List.range len) fun i hi => (hF i (List.mem_range.1 hi)).2.2.1
      refine .lst ((List.range len).flatMap fun i => (F i).2) (by simp) he.pos (told_len he.told _) hrel.1 hrel.2 (fun _ => ⟨a, rfl, fun j v hj => ?_⟩) hl (by simp only [maxLen] at hm ⊢; omega) (fun v hv => ?_)
      · obtain ⟨h1, h2⟩ := flatMap_get he.pos len j v (fun i hi => (hF i hi).2.1) hj
        have h3 := (hF (j / sz) h1).2.2.2.2 (j % sz) (Nat.mod_lt _ he.pos)
        rw [h2, addr_add_add] at h3
        show w.cell? (a.add j) = some v
        have := Nat.div_add_mod j sz
        rw [Nat.mul_comm] at this
        rw [← this]
        exact h3
      · obtain ⟨i, hi, h⟩ := List.mem_flatMap.1 hv
        exact (hF i (List.mem_range.1 hi)).2.2.2.1 v h⟩
/-- Fields behind one another. -/
structure RdFs (P : Program) (fs : List Field) (o : Nat) {α : Type} (g : α → List AV) (sz : Nat) (ok : α → Prop) : Prop where
  read : ∀ {H : Type} {enc : TypeId × Value → H} {w : World} {base : Nat} {spare : Nat → Bool} {held : Bool} {cs : List Value}, cs.length = o + sz → (∀ f ∈ fs, ∃ (n : Nat) (x : DataW H × List MemPlace), DataW.trod enc P w base spare held n f.type ((cs.drop f.offset).take (P.cellsOf f.type)) = some x) →
    ∃ a, ok a ∧ VRs (roOf w) (cs.drop o) (g a) ∧ ∀ v ∈ cs.drop o, v.oneCell' = true
theorem RdFs.nil {o : Nat} : RdFs P [] o (fun _ : Unit => []) 0 (fun _ => True) := ⟨fun hl _ => ⟨(), trivial, by rw [List.drop_of_length_le (by omega)]; exact VRs.nil _, by rw [List.drop_of_length_le (by omega)]; simp⟩⟩
theorem RdFs.cons {α β : Type} {f : Field} {fs : List Field} {o sz sz' : Nat} {g : α → AV} {g' : β → List AV} {ok : α → Prop} {ok' : β → Prop} (h : Rd P f.type g sz ok) (ho : f.offset = o) (hs : RdFs P fs (o + sz) g' sz' ok') : RdFs P (f :: fs) o (fun a : α × β => (g a.1).cells ++ g' a.2) (sz + sz') (fun a => ok a.1 ∧ ok' a.2) := ⟨fun {H enc w base spare held cs} hl hf => by
  obtain ⟨n, x, hx⟩ := hf f List.mem_cons_self
  rw [ho, h.size] at hx
  obtain ⟨a, k1, k2, k3, k4⟩ := h.read hx
  obtain ⟨b, j1, j2, j3⟩ := hs.read (cs := cs) (by omega) fun q hq => hf q (List.mem_cons_of_mem _ hq)
  have e : cs.drop o = (cs.drop o).take sz ++ cs.drop (o + sz) := by rw [← List.drop_drop, List.take_append_drop]
  refine ⟨(a, b), ⟨k1, j1⟩, ?_, ?_⟩
  · rw [e]; exact k3.append j2
  · rw [e]
    intro v hv
    rcases List.mem_append.1 hv with hv | hv
    · exact k4 v hv
    · exact j3 v hv⟩
theorem Rd.struct {α β : Type} {fs : Array Field} {t : TypeId} {g : α → List AV} {sz : Nat} {ok : α → Prop} (ht : P.underlying t = some (.struct fs)) (hs : P.cellsOf t = sz) (hf : RdFs P fs.toList 0 g sz ok) (φ : α → β) (g' : β → AV) (hφ : ∀ a, (g' (φ a)).cells = g a) (told : Told g' sz) (hz : 0 < sz) : Rd P t g' sz (fun b => ∃ a, ok a ∧ b = φ a) := ⟨hs, hz, told, fun {H enc w base spare held n cs x} h => by
  obtain ⟨xs, m, rfl, _, hl, hx, hfs⟩ := DataW.trod_struct ht h
  obtain ⟨a, k1, k2, k3⟩ := hf.read (H := H) (enc := enc) (w := w) (base := base) (spare := spare) (held := held) (cs := cs) (by omega) fun f hfm => by
    obtain ⟨i, hi⟩ := List.mem_iff_getElem?.1 hfm
    have hi2 : i < fs.size := by
      have := (List.getElem?_eq_some_iff.1 hi).1
      simpa using this
    have h2 := hfs i f (by rw [← Array.getElem?_toList]; exact hi)
    rw [List.getElem?_eq_getElem (by omega)] at h2
    exact ⟨m, _, h2⟩
  rw [List.drop_zero] at k2 k3
  exact ⟨φ a, ⟨a, k1, rfl⟩, by omega, by rw [hφ]; exact k2, k3⟩⟩
theorem Rd.arr {α β : Type} [Inhabited α] {g : α → AV} {sz n : Nat} {ok : α → Prop} {t e : TypeId} (he : Rd P e g sz ok) (ht : P.underlying t = some (.array n e)) (hs : P.cellsOf t = n * sz) (hn : 0 < n) (φ : ∀ l : List α, l.length = n → β) (g' : β → AV) (hφ : ∀ l h, (g' (φ l h)).cells = flat (l.map g)) (told : Told g' (n * sz)) : Rd P t g' (n * sz) (fun _ => True) := ⟨hs, Nat.mul_pos hn he.pos, told, fun {H enc w base spare held m cs x} h => by
  obtain ⟨xs, m', rfl, _, hl, hx, hel⟩ := DataW.trod_array ht h
  rw [hs] at hl
  rw [he.size] at hel
  have hex : ∀ i, i < n → ∃ f : α, VRs (roOf w) ((cs.drop (i * sz)).take sz) (g f).cells ∧ ∀ v ∈ (cs.drop (i * sz)).take sz, v.oneCell' = true := by
    intro i hi
    have h2 := hel i hi
    rw [List.getElem?_eq_getElem (by omega)] at h2
    obtain ⟨f, k1, k2, k3, k4⟩ := he.read h2
    exact ⟨f, k3, k4⟩
  obtain ⟨F, hF⟩ := Deep.choose_lt hex
  have hcs : ∀ k, k ≤ n → cs = ((List.range k).flatMap fun i => (cs.drop (i * sz)).take sz) ++ cs.drop (k * sz) := by
    intro k hk
    induction k with
    | zero => simp
    | succ k ih =>
      rw [List.range_succ, List.flatMap_append]
      have e : cs.drop (k * sz) = (cs.drop (k * sz)).take sz ++ cs.drop ((k + 1) * sz) := by
        rw [Nat.succ_mul, ← List.drop_drop, List.take_append_drop]
      conv => lhs; rw [ih (by omega), e]
      simp
  have e1 := hcs n (Nat.le_refl _)
  rw [List.drop_of_length_le (by omega), List.append_nil] at e1
  have hrel := flat_rel (g := g) (R := roOf w) (V := fun i => (cs.drop (i * sz)).take sz) (F := F) (List.range n) fun i hi => (hF i (List.mem_range.1 hi)).1
  refine ⟨φ ((List.range n).map F) (by simp), trivial, hl, ?_, fun v hv => ?_⟩
  · rw [hφ, e1]; exact hrel
  · rw [e1] at hv
    obtain ⟨i, hi, h⟩ := List.mem_flatMap.1 hv
    exact (hF i (List.mem_range.1 hi)).2 v h⟩
theorem Rd.mono {α : Type} {g : α → AV} {t : TypeId} {sz : Nat} {ok ok' : α → Prop} (h : Rd P t g sz ok) (hk : ∀ a, ok a → ok' a) : Rd P t g sz ok' := ⟨h.size, h.pos, h.told, fun hx => by
  obtain ⟨a, k1, k2⟩ := h.read hx
  exact ⟨a, hk a k1, k2⟩⟩
/-- A value that is one cell, or a struct's. -/
theorem Rd.val {α : Type} {g : α → AV} {t : TypeId} {ok : α → Prop} (h : Rd P t g 1 ok) (hg : ∀ a, (g a).cells = [g a]) {H : Type} {enc : TypeId × Value → H} {w : World} {base : Nat} {spare : Nat → Bool} {held : Bool} {n : Nat} {v : Value} {x : DataW H × List MemPlace} (hx : DataW.trod enc P w base spare held n t [v] = some x) : ∃ a, ok a ∧ VR (roOf w) v (g a) := by
  obtain ⟨a, k1, _, k3, _⟩ := h.read hx
  rw [hg] at k3
  exact ⟨a, k1, k3.head⟩
end Go.Ab

/- Tables, read at a start. -/
set_option linter.unusedVariables false
set_option linter.unusedSimpArgs false
namespace Go.Ab
theorem told_dg : Told dgF 32 := (inferInstance : Enc dgF 32).told
theorem rdDig : Rd Go.Proofs.Try.prog DgT dgF 32 (fun _ => True) := (Rd.arr (Rd.byte Go.Proofs.Try.underlying5 (by kernel_rfl)) Go.Proofs.Try.underlying37 (by kernel_rfl) (by decide)) (fun l h => (⟨l, h⟩ : D32)) dgF (fun l h => (flat_byt l).symm) told_dg
theorem rdTab : Rd Go.Proofs.Try.prog 39 tbF 36 (fun x => x.lev ≤ 9223372036854775807 ∧ x.cnt ≤ 9223372036854775807 ∧ -9223372036854775808 ≤ x.lev ∧ -9223372036854775808 ≤ x.cnt) := ((Rd.struct Go.Proofs.Try.underlying39 (by kernel_rfl) (RdFs.cons (Rd.int Go.Proofs.Try.underlying3 (by kernel_rfl)) rfl (RdFs.cons (Rd.int Go.Proofs.Try.underlying3 (by kernel_rfl)) rfl (RdFs.cons rdDig rfl (RdFs.cons (Rd.str Go.Proofs.Try.underlying9 (by kernel_rfl)) rfl (RdFs.cons (Rd.str Go.Proofs.Try.underlying9 (by kernel_rfl)) rfl RdFs.nil)))))) (fun a => TabR.mk a.1 a.2.1 a.2.2.1 a.2.2.2.1 a.2.2.2.2.1) tbF (fun _ => rfl) told_tb (by decide)).mono (by
  rintro _ ⟨a, h, rfl⟩
  have h1 := h.1
  have h2 := h.2.1
  simp only [Lit.wf, Bool.and_eq_true, decide_eq_true_eq, IntKind.min, IntKind.max, IntKind.signed, IntKind.bits] at h1 h2
  simp at h1 h2
  dsimp only
  exact ⟨by omega, by omega, by omega, by omega⟩)
/-- What is told of tables at a start. -/
abbrev okTb (x : TabR) : Prop := x.lev ≤ 9223372036854775807 ∧ x.cnt ≤ 9223372036854775807 ∧ -9223372036854775808 ≤ x.lev ∧ -9223372036854775808 ≤ x.cnt
end Go.Ab

/- Numbers of tables; where nothing is to be merged. -/
set_option linter.unusedVariables false
set_option linter.unusedSimpArgs false
namespace Go.Ab
abbrev InT : TypeId := 3
/-- A number as an element. -/
abbrev it (n : Int) : AV := .val (.int .i64 n)
instance : Enc it 1 := ⟨fun n => ⟨rfl, fun c hc => by
  have hc : c ∈ [it n] := hc
  rw [List.mem_singleton.1 hc]; rfl⟩, by decide, fun _ => rfl⟩
instance : ElemF [.val (.int .i64 0)] Int it := ⟨trivial⟩
instance (n : Int) : AsF it (.val (.int .i64 n)) n := ⟨rfl⟩
instance (n : Int) : Cells (it n) [it n] := ⟨rfl⟩
/-- The numbers of those ahead of a place that are meant. -/
def posT (p : TabR → Bool) (l : List TabR) (k : Nat) : List Int := ((List.range k).filter fun i => p (l.getD i default)).map Int.ofNat
theorem posT_succ (p : TabR → Bool) (l : List TabR) (k : Nat) : posT p l (k + 1) = posT p l k ++ if p (l.getD k default) = true then [(k : Int)] else [] := by
  unfold posT
  rw [List.range_succ, List.filter_append, List.map_append]
  congr 1
  by_cases h : p (l.getD k default) = true
  · rw [if_pos h]; simp only [List.filter_cons, h, if_true, List.filter_nil]; rfl
  · rw [if_neg h]; simp only [List.filter_cons, if_neg h, List.filter_nil]; rfl
theorem posT_len (p : TabR → Bool) (l : List TabR) (k : Nat) : (posT p l k).length ≤ k := by
  unfold posT
  rw [List.length_map]
  exact Nat.le_trans (List.length_filter_le _ _) (by rw [List.length_range]; exact Nat.le_refl _)
def pick_places.mark : Mark := ⟨fun t => false, fun t => false, fun t => false, fun t => Nat.beq t 14, fun t => false⟩
def pick_places.ann : Ann := ⟨fun n => bif Nat.beq n 3 then [1, 5, 8, 9, 10] else [], fun n => none, fun n => none⟩
/-- 'marlstone/pick.places' -/
def pick_places.sh (a0 a1 : AV) (σ : Store) (Q : AEnd → Store → Prop) : Prop :=
  Do (aBuiltin Go.Proofs.Try.prog .len #[22] [a0]) fun t9 =>
  aLoop (fun go vs σ =>
    At vs 0 fun s1 => At vs 1 fun s5 => At vs 2 fun s8 => At vs 3 fun s9 => At vs 4 fun s10 => Do (aBin Go.Proofs.Try.prog .lss 3 s10 s9) fun t11 =>
    aCond t11
      (Do (aIndexAddr .slice 36 s8 s10) fun t13 =>
    Do (loadF true 36 t13) fun t14 =>
    aNewVar 39 [.val (.int .i64 0), .val (.int .i64 0), .val (.int .u8 0), .val (.int .u8 0), .val (.int .u8 0), .val (.int .u8 0), .val (.int .u8 0), .val (.int .u8 0), .val (.int .u8 0), .val (.int .u8 0), .val (.int .u8 0), .val (.int .u8 0), .val (.int .u8 0), .val (.int .u8 0), .val (.int .u8 0), .val (.int .u8 0), .val (.int .u8 0), .val (.int .u8 0), .val (.int .u8 0), .val (.int .u8 0), .val (.int .u8 0), .val (.int .u8 0), .val (.int .u8 0), .val (.int .u8 0), .val (.int .u8 0), .val (.int .u8 0), .val (.int .u8 0), .val (.int .u8 0), .val (.int .u8 0), .val (.int .u8 0), .val (.int .u8 0), .val (.int .u8 0), .val (.int .u8 0), .val (.int .u8 0), .val (.string ⟨#[]⟩), .val (.string ⟨#[]⟩)] σ fun t7 σ_1 =>
    storeA 36 t7 t14 σ_1 fun u σ_2 =>
    Do (loadA true 36 t7 σ_2) fun t16 =>
    aCallV Go.Proofs.Try.prog s1 [t16] σ_2 (fun t17 σ_3 =>
    aCond t17
      (Do (aSlLit (mkE [.val (.int .i64 0)]) 1 1 [(0, s10)]) fun t20 =>
      aAppend 3 1 8 s5 t20 σ_3 (subK fun t21 σ_4 =>
      Do (aBin Go.Proofs.Try.prog .add 3 s10 (.val (.int .i64 1))) fun t22 =>
    go [s1, t21, s8, s9, t22] σ_4))
      (Do (aBin Go.Proofs.Try.prog .add 3 s10 (.val (.int .i64 1))) fun t22_1 =>
    go [s1, s5, s8, s9, t22_1] σ_3)) (fun e σ_5 => Q (.pan e) σ_5))
      (Q (.ret s5) σ))
    [a1, (.val (.slice none 0 0)), a0, t9, (.val (.int .i64 0))] σ
theorem pick_places.eq (a0 a1 : AV) (σ : Store) (Q : AEnd → Store → Prop) : vc (semOf Go.Proofs.Try.prog pick_places.mark) Go.Proofs.Try.f53.ntmps pick_places.ann (bodyOf Go.Proofs.Try.f53) (endK [.tmp 4] Q) (argFr [a0, a1]) σ = pick_places.sh a0 a1 σ Q := by kernel_rfl
theorem pick_places.go {a0 a1 : AV} {σ : Store} {Q : AEnd → Store → Prop} (h : pick_places.sh a0 a1 σ Q) : ACalls Go.Proofs.Try.prog 53 [a0, a1] σ Q :=
  acalls_of_eq [.tmp 4] Go.Proofs.Try.func53 (by kernel_rfl) (by kernel_rfl) (by kernel_rfl) (by kernel_rfl) (pick_places.eq a0 a1 σ Q) h
def pick_span_on.mark : Mark := ⟨fun t => false, fun t => false, fun t => Nat.beq t 2 || Nat.beq t 3, fun t => Nat.beq t 6 || Nat.beq t 8, fun t => false⟩
def pick_span_on.ann : Ann := ⟨fun n => [], fun n => none, fun n => none⟩
/-- '(marlstone/pick.span).on' -/
def pick_span_on.sh (a0 a1 : AV) (σ : Store) (Q : AEnd → Store → Prop) : Prop :=
  Do (aFreeze ((a0 : AV)).cells) fun t2 =>
  Do (aFreeze ((a1 : AV)).cells) fun t3 =>
  Do (aFieldAddr 0 1 t3) fun t5 =>
  Do (loadF false 1 t5) fun t6 =>
  Do (aFieldAddr 0 1 t2) fun t7 =>
  Do (loadF false 1 t7) fun t8 =>
  Do (aBin Go.Proofs.Try.prog .eql 3 t6 t8) fun t9 =>
  Q (.ret t9) σ
theorem pick_span_on.eq (a0 a1 : AV) (σ : Store) (Q : AEnd → Store → Prop) : vc (semOf Go.Proofs.Try.prog pick_span_on.mark) Go.Proofs.Try.f54.ntmps pick_span_on.ann (bodyOf Go.Proofs.Try.f54) (endK [.tmp 4] Q) (argFr [a0, a1]) σ = pick_span_on.sh a0 a1 σ Q := by kernel_rfl
theorem pick_span_on.go {a0 a1 : AV} {σ : Store} {Q : AEnd → Store → Prop} (h : pick_span_on.sh a0 a1 σ Q) : ACalls Go.Proofs.Try.prog 54 [a0, a1] σ Q :=
  acalls_of_eq [.tmp 4] Go.Proofs.Try.func54 (by kernel_rfl) (by kernel_rfl) (by kernel_rfl) (by kernel_rfl) (pick_span_on.eq a0 a1 σ Q) h
def pick_Cap.mark : Mark := ⟨fun t => false, fun t => false, fun t => false, fun t => false, fun t => false⟩
def pick_Cap.ann : Ann := ⟨fun n => [], fun n => none, fun n => none⟩
/-- 'marlstone/pick.Cap' -/
def pick_Cap.sh (a0 : AV) (σ : Store) (Q : AEnd → Store → Prop) : Prop :=
  Do (aBin Go.Proofs.Try.prog .eql 3 a0 (.val (.int .i64 0))) fun t4 =>
  aCond t4
    (Q (.ret (.val (.int .i64 4))) σ)
    (Do (aBin Go.Proofs.Try.prog .lss 3 a0 (.val (.int .i64 0))) fun t6 =>
  Do (aGuard t6 false (aIs a0)) fun t8 =>
  Do (aGuard t6 false (aBin Go.Proofs.Try.prog .geq 3 t8 (.val (.int .i64 3)))) fun t9 =>
  Do (aPick t6 (.val (.bool true)) t9) fun t10 =>
  aCond t10
    (Q (.ret (.val (.int .i64 (-1)))) σ)
    (Do (aBin Go.Proofs.Try.prog .sub 3 a0 (.val (.int .i64 1))) fun t12 =>
  Do (aBin Go.Proofs.Try.prog .mul 3 (.val (.int .i64 2)) t12) fun t13 =>
  Do (aBin Go.Proofs.Try.prog .shl 3 (.val (.int .i64 8)) t13) fun t14 =>
  Q (.ret t14) σ))
theorem pick_Cap.eq (a0 : AV) (σ : Store) (Q : AEnd → Store → Prop) : vc (semOf Go.Proofs.Try.prog pick_Cap.mark) Go.Proofs.Try.f55.ntmps pick_Cap.ann (bodyOf Go.Proofs.Try.f55) (endK [.tmp 2] Q) (argFr [a0]) σ = pick_Cap.sh a0 σ Q := by kernel_rfl
theorem pick_Cap.go {a0 : AV} {σ : Store} {Q : AEnd → Store → Prop} (h : pick_Cap.sh a0 σ Q) : ACalls Go.Proofs.Try.prog 55 [a0] σ Q :=
  acalls_of_eq [.tmp 2] Go.Proofs.Try.func55 (by kernel_rfl) (by kernel_rfl) (by kernel_rfl) (by kernel_rfl) (pick_Cap.eq a0 σ Q) h
def pick_Pick.mark : Mark := ⟨fun t => Nat.beq t 22 || Nat.beq t 26 || Nat.beq t 79, fun t => false, fun t => false, fun t => Nat.beq t 37 || Nat.beq t 40 || Nat.beq t 44 || Nat.beq t 47 || Nat.beq t 54 || Nat.beq t 61 || Nat.beq t 69 || Nat.beq t 85, fun t => false⟩
def pick_Pick.ann : Ann := ⟨fun n => bif Nat.beq n 2 then [0, 15] else bif Nat.beq n 10 then [0, 5, 6, 7, 49, 50, 51] else bif Nat.beq n 16 then [0, 5, 10, 80, 81, 82] else bif Nat.beq n 22 then [5, 10, 13, 90, 91] else [], fun n => bif Nat.beq n 8 then some [0, 5, 6] else none, fun n => none⟩
/-- 'marlstone/pick.Pick' -/
def pick_Pick.sh (a0 : AV) (σ : Store) (Q : AEnd → Store → Prop) : Prop :=
  aLoop (fun go vs σ =>
    At vs 0 fun s0 => At vs 1 fun s15 => Do (aBin Go.Proofs.Try.prog .lss 3 s15 (.val (.int .i64 3))) fun t16 =>
    aCond t16
      (Do (aLit [.val (.int .i64 0), .val (.string ⟨#[]⟩), .val (.string ⟨#[]⟩)] [(0, 1), (1, 1), (2, 1)] [(0, s15)]) fun t20 =>
    Do (aPureC Go.Proofs.Try.prog 53 [s0, (.fn (.func 54) [t20] [])]) fun t22 =>
    Do (aBuiltin Go.Proofs.Try.prog .len #[34] [t22]) fun t24 =>
    Do (aPureC Go.Proofs.Try.prog 55 [s15]) fun t26 =>
    Do (aBin Go.Proofs.Try.prog .leq 3 t24 t26) fun t27 =>
    aCond t27
      (Do (aBin Go.Proofs.Try.prog .add 3 s15 (.val (.int .i64 1))) fun t105 =>
    go [s0, t105] σ)
      (aJoin (fun j =>
      Do (aBin Go.Proofs.Try.prog .gtr 3 s15 (.val (.int .i64 0))) fun t29 =>
      aCond t29
        (Do (aSlice .slice 1 t22 none (some (.val (.int .i64 1))) none) fun t31 =>
        j [s0, s15, t31] σ)
        (j [s0, s15, t22] σ)) fun vs_1 σ_1 =>
    At vs_1 0 fun s0_1 => At vs_1 1 fun s5 => At vs_1 2 fun s6 => Do (aBin Go.Proofs.Try.prog .add 3 s5 (.val (.int .i64 1))) fun t33 =>
    Do (aIndexAddr .slice 1 s6 (.val (.int .i64 0))) fun t36 =>
    Do (loadF false 1 t36) fun t37 =>
    Do (aIndexAddr .slice 36 s0_1 t37) fun t38 =>
    Do (aFieldAddr 34 1 t38) fun t39 =>
    Do (loadF false 1 t39) fun t40 =>
    Do (aIndexAddr .slice 1 s6 (.val (.int .i64 0))) fun t43 =>
    Do (loadF false 1 t43) fun t44 =>
    Do (aIndexAddr .slice 36 s0_1 t44) fun t45 =>
    Do (aFieldAddr 35 1 t45) fun t46 =>
    Do (loadF false 1 t46) fun t47 =>
    Do (aLit [.val (.int .i64 0), .val (.string ⟨#[]⟩), .val (.string ⟨#[]⟩)] [(0, 1), (1, 1), (2, 1)] [(0, t33), (1, t40), (2, t47)]) fun t48 =>
    aNewVar 84 [.val (.int .i64 0), .val (.string ⟨#[]⟩), .val (.string ⟨#[]⟩)] σ_1 fun t7 σ_2 =>
    storeA 3 t7 t48 σ_2 fun u σ_3 =>
    Do (aBuiltin Go.Proofs.Try.prog .len #[34] [s6]) fun t50 =>
    aLoop (fun go_1 vs_2 σ_4 =>
      At vs_2 0 fun s0_2 => At vs_2 1 fun s5_1 => At vs_2 2 fun s6_1 => At vs_2 3 fun s7 => At vs_2 4 fun s49 => At vs_2 5 fun s50 => At vs_2 6 fun s51 => Do (aBin Go.Proofs.Try.prog .lss 3 s51 s50) fun t52 =>
      aCond t52
        (Do (aIndexAddr .slice 1 s49 s51) fun t53 =>
      Do (loadF false 1 t53) fun t54 =>
      Do (aFieldAddr 1 1 s7) fun t55 =>
      Do (loadA false 1 t55 σ_4) fun t56 =>
      Do (aIndexAddr .slice 36 s0_2 t54) fun t59 =>
      Do (aFieldAddr 34 1 t59) fun t60 =>
      Do (loadF false 1 t60) fun t61 =>
      Do (aBuiltin Go.Proofs.Try.prog .min #[9, 9] [t56, t61]) fun t62 =>
      Do (aFieldAddr 2 1 s7) fun t63 =>
      Do (loadA false 1 t63 σ_4) fun t64 =>
      Do (aIndexAddr .slice 36 s0_2 t54) fun t67 =>
      Do (aFieldAddr 35 1 t67) fun t68 =>
      Do (loadF false 1 t68) fun t69 =>
      Do (aBuiltin Go.Proofs.Try.prog .max #[9, 9] [t64, t69]) fun t70 =>
      Do (aFieldAddr 1 1 s7) fun t71 =>
      storeA 1 t71 t62 σ_4 fun u_1 σ_5 =>
      Do (aFieldAddr 2 1 s7) fun t72 =>
      storeA 1 t72 t70 σ_5 fun u_2 σ_6 =>
      Do (aBin Go.Proofs.Try.prog .add 3 s51 (.val (.int .i64 1))) fun t73 =>
      go_1 [s0_2, s5_1, s6_1, s7, s49, s50, t73] σ_6)
        (aHook (eMakeMap σ_4) fun t74 σ_7 =>
    Do (loadA true 3 s7 σ_7) fun t77 =>
    Do (aPureC Go.Proofs.Try.prog 53 [s0_2, (.fn (.func 56) [t77] [])]) fun t79 =>
    aAppend 3 1 8 s6_1 t79 σ_7 (subF fun t80 σ_8 =>
    Do (aBuiltin Go.Proofs.Try.prog .len #[34] [t80]) fun t81 =>
    aLoop (fun go_2 vs_3 σ_9 =>
      At vs_3 0 fun s0_3 => At vs_3 1 fun s5_2 => At vs_3 2 fun s10 => At vs_3 3 fun s80 => At vs_3 4 fun s81 => At vs_3 5 fun s82 => Do (aBin Go.Proofs.Try.prog .lss 3 s82 s81) fun t83 =>
      aCond t83
        (Do (aIndexAddr .slice 1 s80 s82) fun t84 =>
      Do (loadF false 1 t84) fun t85 =>
      aHook (eMapUpd Go.Proofs.Try.prog 86 s10 t85 (.val (.bool true)) σ_9) fun u_3 σ_10 =>
      Do (aBin Go.Proofs.Try.prog .add 3 s82 (.val (.int .i64 1))) fun t88 =>
      go_2 [s0_3, s5_2, s10, s80, s81, t88] σ_10)
        (Do (aBuiltin Go.Proofs.Try.prog .len #[22] [s0_3]) fun t90 =>
    aLoop (fun go_3 vs_4 σ_11 =>
      At vs_4 0 fun s5_3 => At vs_4 1 fun s10_1 => At vs_4 2 fun s13 => At vs_4 3 fun s90 => At vs_4 4 fun s91 => Do (aBin Go.Proofs.Try.prog .lss 3 s91 s90) fun t92 =>
      aCond t92
        (Do (lookA Go.Proofs.Try.prog 86 false s10_1 s91 σ_11) fun t96 =>
      aCond t96
        (Do (aSlLit (mkE [.val (.int .i64 0)]) 1 1 [(0, s91)]) fun t99 =>
        aAppend 3 1 8 s13 t99 σ_11 (subK fun t100 σ_12 =>
        Do (aBin Go.Proofs.Try.prog .add 3 s91 (.val (.int .i64 1))) fun t101 =>
      go_3 [s5_3, s10_1, t100, s90, t101] σ_12))
        (Do (aBin Go.Proofs.Try.prog .add 3 s91 (.val (.int .i64 1))) fun t101_1 =>
      go_3 [s5_3, s10_1, s13, s90, t101_1] σ_11))
        (Do (aBin Go.Proofs.Try.prog .add 3 s5_3 (.val (.int .i64 1))) fun t104 =>
    Q (.ret (.tuple [s13, t104, (.val (.bool true))])) σ_11))
      [s5_2, s10, (.val (.slice none 0 0)), t90, (.val (.int .i64 0))] σ_9))
      [s0_2, s5_1, t74, t80, t81, (.val (.int .i64 0))] σ_8)))
      [s0_1, s5, s6, t7, s6, t50, (.val (.int .i64 0))] σ_3))
      (Q (.ret (.tuple [(.val (.slice none 0 0)), (.val (.int .i64 0)), (.val (.bool false))])) σ))
    [a0, (.val (.int .i64 0))] σ
theorem pick_Pick.eq (a0 : AV) (σ : Store) (Q : AEnd → Store → Prop) : vc (semOf Go.Proofs.Try.prog pick_Pick.mark) Go.Proofs.Try.f32.ntmps pick_Pick.ann (bodyOf Go.Proofs.Try.f32) (endK [.tmp 2, .tmp 3, .tmp 4] Q) (argFr [a0]) σ = pick_Pick.sh a0 σ Q := by kernel_rfl
theorem pick_Pick.go {a0 : AV} {σ : Store} {Q : AEnd → Store → Prop} (h : pick_Pick.sh a0 σ Q) : ACalls Go.Proofs.Try.prog 32 [a0] σ Q :=
  acalls_of_eq [.tmp 2, .tmp 3, .tmp 4] Go.Proofs.Try.func32 (by kernel_rfl) (by kernel_rfl) (by kernel_rfl) (by kernel_rfl) (pick_Pick.eq a0 σ Q) h
def move_Inputs.mark : Mark := ⟨fun t => Nat.beq t 6 || Nat.beq t 9, fun t => false, fun t => false, fun t => false, fun t => false⟩
def move_Inputs.ann : Ann := ⟨fun n => [], fun n => none, fun n => none⟩
/-- 'marlstone/move.Inputs' -/
def move_Inputs.sh (a0 : AV) (σ : Store) (Q : AEnd → Store → Prop) : Prop :=
  Do (aPureC Go.Proofs.Try.prog 17 [a0]) fun t6 =>
  Do (aUn Go.Proofs.Try.prog .not t6) fun t7 =>
  aCond t7
    (Q (.ret (.tuple [(.val (.slice none 0 0)), (.val (.int .i64 0)), (.val (.bool false))])) σ)
    (Do (aPureC Go.Proofs.Try.prog 32 [a0]) fun t9 =>
  Do (aExt t9 0) fun t10 =>
  Do (aExt t9 1) fun t11 =>
  Do (aExt t9 2) fun t12 =>
  Q (.ret (.tuple [t10, t11, t12])) σ)
theorem move_Inputs.eq (a0 : AV) (σ : Store) (Q : AEnd → Store → Prop) : vc (semOf Go.Proofs.Try.prog move_Inputs.mark) Go.Proofs.Try.f15.ntmps move_Inputs.ann (bodyOf Go.Proofs.Try.f15) (endK [.tmp 2, .tmp 3, .tmp 4] Q) (argFr [a0]) σ = move_Inputs.sh a0 σ Q := by kernel_rfl
theorem move_Inputs.go {a0 : AV} {σ : Store} {Q : AEnd → Store → Prop} (h : move_Inputs.sh a0 σ Q) : ACalls Go.Proofs.Try.prog 15 [a0] σ Q :=
  acalls_of_eq [.tmp 2, .tmp 3, .tmp 4] Go.Proofs.Try.func15 (by kernel_rfl) (by kernel_rfl) (by kernel_rfl) (by kernel_rfl) (move_Inputs.eq a0 σ Q) h
def move_Compact.mark : Mark := ⟨fun t => Nat.beq t 23 || Nat.beq t 27 || Nat.beq t 58 || Nat.beq t 75 || Nat.beq t 76 || Nat.beq t 87 || Nat.beq t 98, fun t => false, fun t => Nat.beq t 3, fun t => Nat.beq t 46 || Nat.beq t 48 || Nat.beq t 53 || Nat.beq t 57 || Nat.beq t 68 || Nat.beq t 82 || Nat.beq t 84, fun t => false⟩
def move_Compact.ann : Ann := ⟨fun n => bif Nat.beq n 9 then [1, 2, 3, 9, 10, 40, 41, 42] else bif Nat.beq n 18 then [1, 3, 9, 10, 16, 17, 77, 78, 79] else [], fun n => none, fun n => none⟩
/-- 'marlstone/move.Compact' -/
def move_Compact.sh (a0 a1 a2 : AV) (σ : Store) (Q : AEnd → Store → Prop) : Prop :=
  Do (aFreeze ((a0 : AV)).cells) fun t3 =>
  Do (aPureC Go.Proofs.Try.prog 17 [a1]) fun t23 =>
  Do (aUn Go.Proofs.Try.prog .not t23) fun t24 =>
  aCond t24
    (Q (.ret (.tuple [(.val (.slice none 0 0)), (.val (.slice none 0 0)), (.val (.int .i64 1))])) σ)
    (Do (aPureC Go.Proofs.Try.prog 32 [a1]) fun t27 =>
  Do (aExt t27 0) fun t28 =>
  Do (aExt t27 1) fun t29 =>
  Do (aExt t27 2) fun t30 =>
  Do (aUn Go.Proofs.Try.prog .not t30) fun t33 =>
  aCond t33
    (Q (.ret (.tuple [(.val (.slice none 0 0)), (.val (.slice none 0 0)), (.val (.int .i64 5))])) σ)
    (Do (aBuiltin Go.Proofs.Try.prog .len #[34] [t28]) fun t36 =>
    Do (aBuiltin Go.Proofs.Try.prog .len #[41] [a2]) fun t38 =>
    Do (aBin Go.Proofs.Try.prog .neq 3 t36 t38) fun t39 =>
    aCond t39
      (Q (.ret (.tuple [(.val (.slice none 0 0)), (.val (.slice none 0 0)), (.val (.int .i64 8))])) σ)
      (Do (aBuiltin Go.Proofs.Try.prog .len #[34] [t28]) fun t41 =>
  aLoop (fun go vs σ =>
    At vs 0 fun s1 => At vs 1 fun s2 => At vs 2 fun s3 => At vs 3 fun s9 => At vs 4 fun s10 => At vs 5 fun s40 => At vs 6 fun s41 => At vs 7 fun s42 => Do (aBin Go.Proofs.Try.prog .lss 3 s42 s41) fun t43 =>
    aCond t43
      (Do (aIndexAddr .slice 1 s40 s42) fun t45 =>
    Do (loadF false 1 t45) fun t46 =>
    Do (loadF true 1 s3) fun t48 =>
    Do (aIndexAddr .slice 36 s1 t46) fun t51 =>
    Do (aFieldAddr 0 1 t51) fun t52 =>
    Do (loadF false 1 t52) fun t53 =>
    Do (aIndexAddr .slice 1 s2 s42) fun t56 =>
    Do (loadF false 1 t56) fun t57 =>
    Do (aPureC Go.Proofs.Try.prog 20 [t48, t53, t57]) fun t58 =>
    Do (aExt t58 0) fun t59 =>
    Do (aExt t58 1) fun t60 =>
    aNewVar 39 [.val (.int .i64 0), .val (.int .i64 0), .val (.int .u8 0), .val (.int .u8 0), .val (.int .u8 0), .val (.int .u8 0), .val (.int .u8 0), .val (.int .u8 0), .val (.int .u8 0), .val (.int .u8 0), .val (.int .u8 0), .val (.int .u8 0), .val (.int .u8 0), .val (.int .u8 0), .val (.int .u8 0), .val (.int .u8 0), .val (.int .u8 0), .val (.int .u8 0), .val (.int .u8 0), .val (.int .u8 0), .val (.int .u8 0), .val (.int .u8 0), .val (.int .u8 0), .val (.int .u8 0), .val (.int .u8 0), .val (.int .u8 0), .val (.int .u8 0), .val (.int .u8 0), .val (.int .u8 0), .val (.int .u8 0), .val (.int .u8 0), .val (.int .u8 0), .val (.int .u8 0), .val (.int .u8 0), .val (.string ⟨#[]⟩), .val (.string ⟨#[]⟩)] σ fun t14 σ_1 =>
    storeA 36 t14 t59 σ_1 fun u σ_2 =>
    Do (aBin Go.Proofs.Try.prog .neq 26 t60 (.val (.int .i64 0))) fun t62 =>
    Do (aGuard t62 false (loadA true 36 t14 σ_2)) fun t64 =>
    Do (aGuard t62 false (aIs s1)) fun t65 =>
    Do (aGuard t62 false (aIs t46)) fun t66 =>
    Do (aGuard t62 false (aIndexAddr .slice 36 t65 t66)) fun t67 =>
    Do (aGuard t62 false (loadF true 36 t67)) fun t68 =>
    Do (aGuard t62 false (aBin Go.Proofs.Try.prog .neq 39 t64 t68)) fun t69 =>
    Do (aPick t62 (.val (.bool true)) t69) fun t70 =>
    aCond t70
      (Q (.ret (.tuple [(.val (.slice none 0 0)), (.val (.slice none 0 0)), (.val (.int .i64 8))])) σ_2)
      (Do (aBin Go.Proofs.Try.prog .add 3 s42 (.val (.int .i64 1))) fun t71 =>
    go [s1, s2, s3, s9, s10, s40, s41, t71] σ_2))
      (Do (aBin Go.Proofs.Try.prog .eql 3 s10 (.val (.int .i64 3))) fun t74 =>
  Do (aPureC Go.Proofs.Try.prog 37 [s2, t74]) fun t75 =>
  Do (aPureC Go.Proofs.Try.prog 36 [t75]) fun t76 =>
  Do (aBuiltin Go.Proofs.Try.prog .len #[41] [t76]) fun t78 =>
  aLoop (fun go_1 vs_1 σ_3 =>
    At vs_1 0 fun s1_1 => At vs_1 1 fun s3_1 => At vs_1 2 fun s9_1 => At vs_1 3 fun s10_1 => At vs_1 4 fun s16 => At vs_1 5 fun s17 => At vs_1 6 fun s77 => At vs_1 7 fun s78 => At vs_1 8 fun s79 => Do (aBin Go.Proofs.Try.prog .lss 3 s79 s78) fun t80 =>
    aCond t80
      (Do (aIndexAddr .slice 1 s77 s79) fun t81 =>
    Do (loadF false 1 t81) fun t82 =>
    Do (loadF true 1 s3_1) fun t84 =>
    Do (aPureC Go.Proofs.Try.prog 20 [t84, s10_1, t82]) fun t87 =>
    Do (aExt t87 0) fun t88 =>
    Do (aExt t87 1) fun t89 =>
    aNewVar 39 [.val (.int .i64 0), .val (.int .i64 0), .val (.int .u8 0), .val (.int .u8 0), .val (.int .u8 0), .val (.int .u8 0), .val (.int .u8 0), .val (.int .u8 0), .val (.int .u8 0), .val (.int .u8 0), .val (.int .u8 0), .val (.int .u8 0), .val (.int .u8 0), .val (.int .u8 0), .val (.int .u8 0), .val (.int .u8 0), .val (.int .u8 0), .val (.int .u8 0), .val (.int .u8 0), .val (.int .u8 0), .val (.int .u8 0), .val (.int .u8 0), .val (.int .u8 0), .val (.int .u8 0), .val (.int .u8 0), .val (.int .u8 0), .val (.int .u8 0), .val (.int .u8 0), .val (.int .u8 0), .val (.int .u8 0), .val (.int .u8 0), .val (.int .u8 0), .val (.int .u8 0), .val (.int .u8 0), .val (.string ⟨#[]⟩), .val (.string ⟨#[]⟩)] σ_3 fun t20 σ_4 =>
    storeA 36 t20 t88 σ_4 fun u_1 σ_5 =>
    Do (loadA true 36 t20 σ_5) fun t91 =>
    Do (aSlLit (mkE [.val (.int .i64 0), .val (.int .i64 0), .val (.int .u8 0), .val (.int .u8 0), .val (.int .u8 0), .val (.int .u8 0), .val (.int .u8 0), .val (.int .u8 0), .val (.int .u8 0), .val (.int .u8 0), .val (.int .u8 0), .val (.int .u8 0), .val (.int .u8 0), .val (.int .u8 0), .val (.int .u8 0), .val (.int .u8 0), .val (.int .u8 0), .val (.int .u8 0), .val (.int .u8 0), .val (.int .u8 0), .val (.int .u8 0), .val (.int .u8 0), .val (.int .u8 0), .val (.int .u8 0), .val (.int .u8 0), .val (.int .u8 0), .val (.int .u8 0), .val (.int .u8 0), .val (.int .u8 0), .val (.int .u8 0), .val (.int .u8 0), .val (.int .u8 0), .val (.int .u8 0), .val (.int .u8 0), .val (.string ⟨#[]⟩), .val (.string ⟨#[]⟩)]) 36 1 [(0, t91)]) fun t92 =>
    aAppend 39 36 80 s17 t92 σ_5 (subK fun t93 σ_6 =>
    Do (aBin Go.Proofs.Try.prog .add 3 s79 (.val (.int .i64 1))) fun t94 =>
    go_1 [s1_1, s3_1, s9_1, s10_1, s16, t93, s77, s78, t94] σ_6))
      (Do (aPureC Go.Proofs.Try.prog 12 [s1_1, s9_1, s17]) fun t98 =>
  Q (.ret (.tuple [t98, s16, (.val (.int .i64 0))])) σ_3))
    [s1, s3, s9, s10, t76, (.val (.slice none 0 0)), t76, t78, (.val (.int .i64 0))] σ))
    [a1, a2, t3, t28, t29, t28, t41, (.val (.int .i64 0))] σ)))
theorem move_Compact.eq (a0 a1 a2 : AV) (σ : Store) (Q : AEnd → Store → Prop) : vc (semOf Go.Proofs.Try.prog move_Compact.mark) Go.Proofs.Try.f18.ntmps move_Compact.ann (bodyOf Go.Proofs.Try.f18) (endK [.tmp 6, .tmp 7, .tmp 8] Q) (argFr [a0, a1, a2]) σ = move_Compact.sh a0 a1 a2 σ Q := by kernel_rfl
theorem move_Compact.go {a0 a1 a2 : AV} {σ : Store} {Q : AEnd → Store → Prop} (h : move_Compact.sh a0 a1 a2 σ Q) : ACalls Go.Proofs.Try.prog 18 [a0, a1, a2] σ Q :=
  acalls_of_eq [.tmp 6, .tmp 7, .tmp 8] Go.Proofs.Try.func18 (by kernel_rfl) (by kernel_rfl) (by kernel_rfl) (by kernel_rfl) (move_Compact.eq a0 a1 a2 σ Q) h
def ref17_Flush.mark : Mark := ⟨fun t => Nat.beq t 13 || Nat.beq t 15 || Nat.beq t 28, fun t => Nat.beq t 32, fun t => false, fun t => false, fun t => false⟩
def ref17_Flush.ann : Ann := ⟨fun n => [], fun n => none, fun n => none⟩
/-- 'marlstone/marlstoneref17.Flush' -/
def ref17_Flush.sh (a0 a1 a2 : AV) (σ : Store) (Q : AEnd → Store → Prop) : Prop :=
  Do (aPureC Go.Proofs.Try.prog 23 [a1]) fun t13 =>
  Do (aPureC Go.Proofs.Try.prog 24 [a2]) fun t15 =>
  Do (aUn Go.Proofs.Try.prog .not t13) fun t17 =>
  Do (aGuard t17 false (aIs t15)) fun t19 =>
  Do (aGuard t17 false (aUn Go.Proofs.Try.prog .not t19)) fun t20 =>
  Do (aPick t17 (.val (.bool true)) t20) fun t21 =>
  aCond t21
    (Q (.ret (.tuple [(.val (.slice none 0 0)), (.val (.int .i64 1))])) σ)
    (Do (aBuiltin Go.Proofs.Try.prog .len #[22] [a1]) fun t23 =>
  Do (aBin Go.Proofs.Try.prog .geq 3 t23 (.val (.int .i64 512))) fun t24 =>
  aCond t24
    (Q (.ret (.tuple [(.val (.slice none 0 0)), (.val (.int .i64 3))])) σ)
    (Do (aPureC Go.Proofs.Try.prog 25 [a0, (.val (.int .i64 0)), a2]) fun t28 =>
  Do (aExt t28 0) fun t29 =>
  Do (aExt t28 1) fun t30 =>
  aNewVar 39 [.val (.int .i64 0), .val (.int .i64 0), .val (.int .u8 0), .val (.int .u8 0), .val (.int .u8 0), .val (.int .u8 0), .val (.int .u8 0), .val (.int .u8 0), .val (.int .u8 0), .val (.int .u8 0), .val (.int .u8 0), .val (.int .u8 0), .val (.int .u8 0), .val (.int .u8 0), .val (.int .u8 0), .val (.int .u8 0), .val (.int .u8 0), .val (.int .u8 0), .val (.int .u8 0), .val (.int .u8 0), .val (.int .u8 0), .val (.int .u8 0), .val (.int .u8 0), .val (.int .u8 0), .val (.int .u8 0), .val (.int .u8 0), .val (.int .u8 0), .val (.int .u8 0), .val (.int .u8 0), .val (.int .u8 0), .val (.int .u8 0), .val (.int .u8 0), .val (.int .u8 0), .val (.int .u8 0), .val (.string ⟨#[]⟩), .val (.string ⟨#[]⟩)] σ fun t10 σ =>
  storeA 36 t10 t29 σ fun u σ_1 =>
  Do (loadA true 36 t10 σ_1) fun t31 =>
  aRowL 39 (mkE [.val (.int .i64 0), .val (.int .i64 0), .val (.int .u8 0), .val (.int .u8 0), .val (.int .u8 0), .val (.int .u8 0), .val (.int .u8 0), .val (.int .u8 0), .val (.int .u8 0), .val (.int .u8 0), .val (.int .u8 0), .val (.int .u8 0), .val (.int .u8 0), .val (.int .u8 0), .val (.int .u8 0), .val (.int .u8 0), .val (.int .u8 0), .val (.int .u8 0), .val (.int .u8 0), .val (.int .u8 0), .val (.int .u8 0), .val (.int .u8 0), .val (.int .u8 0), .val (.int .u8 0), .val (.int .u8 0), .val (.int .u8 0), .val (.int .u8 0), .val (.int .u8 0), .val (.int .u8 0), .val (.int .u8 0), .val (.int .u8 0), .val (.int .u8 0), .val (.int .u8 0), .val (.int .u8 0), .val (.string ⟨#[]⟩), .val (.string ⟨#[]⟩)]) 36 1 [(0, t31)] σ_1 fun t32 σ_2 =>
  aAppend 39 36 80 t32 a1 σ_2 (subK fun t34 σ_3 =>
  Q (.ret (.tuple [t34, (.val (.int .i64 0))])) σ_3)))
theorem ref17_Flush.eq (a0 a1 a2 : AV) (σ : Store) (Q : AEnd → Store → Prop) : vc (semOf Go.Proofs.Try.prog ref17_Flush.mark) Go.Proofs.Try.f10.ntmps ref17_Flush.ann (bodyOf Go.Proofs.Try.f10) (endK [.tmp 6, .tmp 7] Q) (argFr [a0, a1, a2]) σ = ref17_Flush.sh a0 a1 a2 σ Q := by kernel_rfl
theorem ref17_Flush.go {a0 a1 a2 : AV} {σ : Store} {Q : AEnd → Store → Prop} (h : ref17_Flush.sh a0 a1 a2 σ Q) : ACalls Go.Proofs.Try.prog 10 [a0, a1, a2] σ Q :=
  acalls_of_eq [.tmp 6, .tmp 7] Go.Proofs.Try.func10 (by kernel_rfl) (by kernel_rfl) (by kernel_rfl) (by kernel_rfl) (ref17_Flush.eq a0 a1 a2 σ Q) h
def law17_few.mark : Mark := ⟨fun t => false, fun t => false, fun t => false, fun t => Nat.beq t 22, fun t => false⟩
def law17_few.ann : Ann := ⟨fun n => bif Nat.beq n 3 then [0, 1, 5, 6] else [], fun n => none, fun n => none⟩
/-- 'marlstone/marlstonelaw17.few' -/
def law17_few.sh (a0 a1 : AV) (σ : Store) (Q : AEnd → Store → Prop) : Prop :=
  aLoop (fun go vs σ =>
    At vs 0 fun s0 => At vs 1 fun s1 => At vs 2 fun s5 => At vs 3 fun s6 => Do (aBuiltin Go.Proofs.Try.prog .len #[23] [s0]) fun t10 =>
    Do (aBin Go.Proofs.Try.prog .lss 3 s6 t10) fun t11 =>
    Do (aGuard t11 true (aIs s6)) fun t13 =>
    Do (aGuard t11 true (aIs s1)) fun t14 =>
    Do (aGuard t11 true (aBin Go.Proofs.Try.prog .lss 3 t13 t14)) fun t15 =>
    Do (aPick t11 t15 (.val (.bool false))) fun t16 =>
    aCond t16
      (Do (aIndexAddr .slice 4 s0 s6) fun t21 =>
    Do (loadF true 4 t21) fun t22 =>
    aNewVar 45 [.val (.string ⟨#[]⟩), .val (.string ⟨#[]⟩), .val (.bool false), .val (.int .i64 0)] σ fun t7 σ_1 =>
    storeA 4 t7 t22 σ_1 fun u σ_2 =>
    Do (aFieldAddr 0 1 t7) fun t23 =>
    Do (loadA false 1 t23 σ_2) fun t24 =>
    Do (aFieldAddr 0 1 t7) fun t25 =>
    Do (loadA false 1 t25 σ_2) fun t26 =>
    Do (aBuiltin Go.Proofs.Try.prog .len #[9] [t26]) fun t27 =>
    Do (aBuiltin Go.Proofs.Try.prog .min #[3, 3] [t27, (.val (.int .i64 130))]) fun t28 =>
    Do (aSlice .string 1 t24 none (some t28) none) fun t29 =>
    Do (aFieldAddr 0 1 t7) fun t30 =>
    storeA 1 t30 t29 σ_2 fun u_1 σ_3 =>
    Do (aFieldAddr 1 1 t7) fun t31 =>
    Do (loadA false 1 t31 σ_3) fun t32 =>
    Do (aFieldAddr 1 1 t7) fun t33 =>
    Do (loadA false 1 t33 σ_3) fun t34 =>
    Do (aBuiltin Go.Proofs.Try.prog .len #[9] [t34]) fun t35 =>
    Do (aBuiltin Go.Proofs.Try.prog .min #[3, 3] [t35, (.val (.int .i64 200))]) fun t36 =>
    Do (aSlice .string 1 t32 none (some t36) none) fun t37 =>
    Do (aFieldAddr 1 1 t7) fun t38 =>
    storeA 1 t38 t37 σ_3 fun u_2 σ_4 =>
    Do (loadA true 4 t7 σ_4) fun t40 =>
    Do (aSlLit (mkE [.val (.string ⟨#[]⟩), .val (.string ⟨#[]⟩), .val (.bool false), .val (.int .i64 0)]) 4 1 [(0, t40)]) fun t41 =>
    aAppend 45 4 48 s5 t41 σ_4 (subK fun t42 σ_5 =>
    Do (aBin Go.Proofs.Try.prog .add 3 s6 (.val (.int .i64 1))) fun t18 =>
    go [s0, s1, t42, t18] σ_5))
      (Q (.ret s5) σ))
    [a0, a1, (.val (.slice none 0 0)), (.val (.int .i64 0))] σ
theorem law17_few.eq (a0 a1 : AV) (σ : Store) (Q : AEnd → Store → Prop) : vc (semOf Go.Proofs.Try.prog law17_few.mark) Go.Proofs.Try.f8.ntmps law17_few.ann (bodyOf Go.Proofs.Try.f8) (endK [.tmp 4] Q) (argFr [a0, a1]) σ = law17_few.sh a0 a1 σ Q := by kernel_rfl
theorem law17_few.go {a0 a1 : AV} {σ : Store} {Q : AEnd → Store → Prop} (h : law17_few.sh a0 a1 σ Q) : ACalls Go.Proofs.Try.prog 8 [a0, a1] σ Q :=
  acalls_of_eq [.tmp 4] Go.Proofs.Try.func8 (by kernel_rfl) (by kernel_rfl) (by kernel_rfl) (by kernel_rfl) (law17_few.eq a0 a1 σ Q) h
def law17_shown.mark : Mark := ⟨fun t => Nat.beq t 15 || Nat.beq t 21 || Nat.beq t 27, fun t => false, fun t => false, fun t => Nat.beq t 38 || Nat.beq t 45, fun t => false⟩
def law17_shown.ann : Ann := ⟨fun n => [], fun n => none, fun n => none⟩
/-- 'marlstone/marlstonelaw17.shown' -/
def law17_shown.sh (σ : Store) (Q : AEnd → Store → Prop) : Prop :=
  Do (aLit [.val (.int .i64 0)] [(0, 1)] [(0, (.val (.int .i64 256)))]) fun t10 =>
  aNewVar 30 [.val (.int .i64 0)] σ fun t1 σ =>
  storeA 1 t1 t10 σ fun u σ_1 =>
  Do (loadA true 1 t1 σ_1) fun t12 =>
  Do (aLit [.val (.string ⟨#[]⟩), .val (.string ⟨#[]⟩), .val (.bool false), .val (.int .i64 0)] [(0, 1), (1, 1), (2, 1), (3, 1)] [(0, (.val (.string ⟨#[97]⟩))), (3, (.val (.int .i64 1)))]) fun t13 =>
  Do (aSlLit (mkE [.val (.string ⟨#[]⟩), .val (.string ⟨#[]⟩), .val (.bool false), .val (.int .i64 0)]) 4 1 [(0, t13)]) fun t14 =>
  Do (aPureC Go.Proofs.Try.prog 9 [t12, (.val (.slice none 0 0)), t14]) fun t15 =>
  Do (aExt t15 0) fun t16 =>
  Do (aExt t15 1) fun t17 =>
  Do (loadA true 1 t1 σ_1) fun t19 =>
  Do (aPureC Go.Proofs.Try.prog 18 [t19, t16, (.val (.slice none 0 0))]) fun t21 =>
  Do (aExt t21 0) fun t22 =>
  Do (aExt t21 1) fun t23 =>
  Do (aExt t21 2) fun t24 =>
  Do (aPureC Go.Proofs.Try.prog 15 [t16]) fun t27 =>
  Do (aExt t27 0) fun t28 =>
  Do (aExt t27 1) fun t29 =>
  Do (aExt t27 2) fun t30 =>
  Do (aBuiltin Go.Proofs.Try.prog .len #[22] [t16]) fun t32 =>
  Do (aBin Go.Proofs.Try.prog .eql 3 t32 (.val (.int .i64 1))) fun t33 =>
  Do (aGuard t33 true (aIs t16)) fun t35 =>
  Do (aGuard t33 true (aIndexAddr .slice 36 t35 (.val (.int .i64 0)))) fun t36 =>
  Do (aGuard t33 true (aFieldAddr 0 1 t36)) fun t37 =>
  Do (aGuard t33 true (loadF false 1 t37)) fun t38 =>
  Do (aGuard t33 true (aBin Go.Proofs.Try.prog .eql 3 t38 (.val (.int .i64 0)))) fun t39 =>
  Do (aPick t33 t39 (.val (.bool false))) fun t40 =>
  Do (aGuard t40 true (aIs t16)) fun t42 =>
  Do (aGuard t40 true (aIndexAddr .slice 36 t42 (.val (.int .i64 0)))) fun t43 =>
  Do (aGuard t40 true (aFieldAddr 1 1 t43)) fun t44 =>
  Do (aGuard t40 true (loadF false 1 t44)) fun t45 =>
  Do (aGuard t40 true (aBin Go.Proofs.Try.prog .eql 3 t45 (.val (.int .i64 1)))) fun t46 =>
  Do (aPick t40 t46 (.val (.bool false))) fun t47 =>
  Do (aGuard t47 true (aIs t17)) fun t49 =>
  Do (aGuard t47 true (aBin Go.Proofs.Try.prog .eql 26 t49 (.val (.int .i64 0)))) fun t50 =>
  Do (aPick t47 t50 (.val (.bool false))) fun t51 =>
  Do (aGuard t51 true (aIs t24)) fun t53 =>
  Do (aGuard t51 true (aBin Go.Proofs.Try.prog .eql 26 t53 (.val (.int .i64 5)))) fun t54 =>
  Do (aPick t51 t54 (.val (.bool false))) fun t55 =>
  Do (aGuard t55 true (aIs t30)) fun t57 =>
  Do (aGuard t55 true (aUn Go.Proofs.Try.prog .not t57)) fun t58 =>
  Do (aPick t55 t58 (.val (.bool false))) fun t59 =>
  Q (.ret t59) σ_1
theorem law17_shown.eq (σ : Store) (Q : AEnd → Store → Prop) : vc (semOf Go.Proofs.Try.prog law17_shown.mark) Go.Proofs.Try.f7.ntmps law17_shown.ann (bodyOf Go.Proofs.Try.f7) (endK [.tmp 0] Q) (argFr []) σ = law17_shown.sh  σ Q := by kernel_rfl
theorem law17_shown.go {σ : Store} {Q : AEnd → Store → Prop} (h : law17_shown.sh  σ Q) : ACalls Go.Proofs.Try.prog 7 [] σ Q :=
  acalls_of_eq [.tmp 0] Go.Proofs.Try.func7 (by kernel_rfl) (by kernel_rfl) (by kernel_rfl) (by kernel_rfl) (law17_shown.eq  σ Q) h
def law17_MoveFlushes.mark : Mark := ⟨fun t => Nat.beq t 13 || Nat.beq t 20 || Nat.beq t 26 || Nat.beq t 33 || Nat.beq t 38, fun t => false, fun t => false, fun t => false, fun t => false⟩
def law17_MoveFlushes.ann : Ann := ⟨fun n => [], fun n => none, fun n => none⟩
/-- 'marlstone/marlstonelaw17.MoveFlushes' -/
def law17_MoveFlushes.sh (a0 a1 a2 : AV) (σ : Store) (Q : AEnd → Store → Prop) : Prop :=
  Do (aPureC Go.Proofs.Try.prog 7 []) fun t13 =>
  Do (aBuiltin Go.Proofs.Try.prog .len #[22] [a1]) fun t16 =>
  Do (aBuiltin Go.Proofs.Try.prog .min #[3, 3] [t16, (.val (.int .i64 20))]) fun t17 =>
  Do (aSlice .slice 36 a1 none (some t17) none) fun t18 =>
  Do (aPureC Go.Proofs.Try.prog 8 [a2, (.val (.int .i64 70))]) fun t20 =>
  Do (aLit [.val (.int .i64 0)] [(0, 1)] [(0, a0)]) fun t23 =>
  Do (aPureC Go.Proofs.Try.prog 9 [t23, t18, t20]) fun t26 =>
  Do (aExt t26 0) fun t27 =>
  Do (aExt t26 1) fun t28 =>
  Do (aPureC Go.Proofs.Try.prog 10 [a0, t18, t20]) fun t33 =>
  Do (aExt t33 0) fun t34 =>
  Do (aExt t33 1) fun t35 =>
  Do (aPureC Go.Proofs.Try.prog 11 [t27, t34]) fun t38 =>
  Do (aGuard t13 true (aIs t38)) fun t41 =>
  Do (aPick t13 t41 (.val (.bool false))) fun t42 =>
  Do (aGuard t42 true (aIs t28)) fun t44 =>
  Do (aGuard t42 true (aIs t35)) fun t45 =>
  Do (aGuard t42 true (aBin Go.Proofs.Try.prog .eql 26 t44 t45)) fun t46 =>
  Do (aPick t42 t46 (.val (.bool false))) fun t47 =>
  Q (.ret t47) σ
theorem law17_MoveFlushes.eq (a0 a1 a2 : AV) (σ : Store) (Q : AEnd → Store → Prop) : vc (semOf Go.Proofs.Try.prog law17_MoveFlushes.mark) Go.Proofs.Try.f3.ntmps law17_MoveFlushes.ann (bodyOf Go.Proofs.Try.f3) (endK [.tmp 6] Q) (argFr [a0, a1, a2]) σ = law17_MoveFlushes.sh a0 a1 a2 σ Q := by kernel_rfl
theorem law17_MoveFlushes.go {a0 a1 a2 : AV} {σ : Store} {Q : AEnd → Store → Prop} (h : law17_MoveFlushes.sh a0 a1 a2 σ Q) : ACalls Go.Proofs.Try.prog 3 [a0, a1, a2] σ Q :=
  acalls_of_eq [.tmp 6] Go.Proofs.Try.func3 (by kernel_rfl) (by kernel_rfl) (by kernel_rfl) (by kernel_rfl) (law17_MoveFlushes.eq a0 a1 a2 σ Q) h
theorem places_ok (l : List TabR) (m : SM) (g : FuncId) (r : AV) (p : TabR → Bool) (hl : l.length ≤ 1000000) (hg : ∀ x : TabR, aPure Go.Proofs.Try.prog g [r, tbF x] (B (p x))) : aPure Go.Proofs.Try.prog 53 [.lst 36 (l.map tbF) m, .fn (.func g) [r] []] (.lst 1 ((posT p l l.length).map it) .ro) := by
  refine ACalls.fin (pick_places.go ?_)
  unfold pick_places.sh
  repeat' (first | with_reducible apply Stp.go | with_reducible refine imp fun _ => ?_ | (with_reducible refine hyp ?_ ?_; first | assumption | exact leftT_mem (by assumption)) | (with_reducible refine need ?_ ?_; first | trivial | omega | exact ⟨by assumption, by omega⟩ | (simp only [List.length_append, List.length_cons, List.length_nil, List.length_map, List.length_take, List.length_drop, List.length_replicate, List.length_set]; omega)) | (with_reducible refine fact ?_ ?_; first | trivial | exact ⟨rfl, rfl⟩ | kernel_rfl) | with_reducible refine choT (by assumption) ?_ | with_reducible refine choF (by assumption) ?_ | with_reducible refine choF' (by assumption) ?_ | (with_reducible refine altT ?_ ?_; first | omega | (simp only [List.length_append, List.length_cons, List.length_nil, List.length_map, List.length_take, List.length_drop, List.length_replicate, List.length_set]; omega)) | with_reducible refine altF ?_ | with_reducible refine all fun _ => ?_ | with_reducible refine both ?_ ?_ | (with_reducible refine choT ?_ ?_; omega) | (with_reducible refine choF ?_ ?_; omega) | with_reducible refine cho (fun _ => ?_) (fun _ => ?_))
  refine loopI (β := Nat × Value) (fun x => x.1 ≤ l.length) (fun x => [.fn (.func g) [r] [], .own x.2 (posT p l x.1).length, .lst 36 (l.map tbF) m, I .i64 (l.length : Nat), I .i64 (x.1 : Nat)]) (fun x => [.row x.2 InT 1 ((posT p l x.1).map it) 0]) (fun x => l.length - x.1) (0, .slice none 0 0) (Nat.zero_le _) (Sub.nil_own InT (sz := 1) (by decide) _ [_] [_, _, _]) ?_
  rintro ⟨i, v⟩ h1
  dsimp only at h1 ⊢
  have hpl := posT_len p l i
  by_cases hi : i < l.length
  · have hs := posT_succ p l i
    have hpc : ∀ x : TabR, PC Go.Proofs.Try.prog g ([r] ++ [tbF x] ++ []) True (B (p x)) := fun x => ⟨fun _ => PC.of (hg x)⟩
    have hpi := hpc (l.getD i default)
    by_cases hp : p (l.getD i default) = true
    · rw [if_pos hp] at hs
      repeat' (first | with_reducible apply Stp.go | with_reducible refine imp fun _ => ?_ | (with_reducible refine hyp ?_ ?_; first | assumption | exact leftT_mem (by assumption)) | (with_reducible refine need ?_ ?_; first | trivial | omega | exact ⟨by assumption, by omega⟩ | (simp only [List.length_append, List.length_cons, List.length_nil, List.length_map, List.length_take, List.length_drop, List.length_replicate, List.length_set]; omega)) | (with_reducible refine fact ?_ ?_; first | trivial | exact ⟨rfl, rfl⟩ | kernel_rfl) | with_reducible refine choT (by assumption) ?_ | with_reducible refine choF (by assumption) ?_ | with_reducible refine choF' (by assumption) ?_ | (with_reducible refine altT ?_ ?_; first | omega | (simp only [List.length_append, List.length_cons, List.length_nil, List.length_map, List.length_take, List.length_drop, List.length_replicate, List.length_set]; omega)) | with_reducible refine altF ?_ | with_reducible refine all fun _ => ?_ | with_reducible refine both ?_ ?_ | (with_reducible refine choT ?_ ?_; omega) | (with_reducible refine choF ?_ ?_; omega) | with_reducible refine cho (fun _ => ?_) (fun _ => ?_))
      rename_i w
      exact again (i + 1, w) (by dsimp only; omega) (by dsimp only; omega) (by dsimp only; rw [hs]; exact Sub.drop_ (.cons _ (.cons_cons _ .slnil)) _)
    · rw [if_neg hp, List.append_nil] at hs
      repeat' (first | with_reducible apply Stp.go | with_reducible refine imp fun _ => ?_ | (with_reducible refine hyp ?_ ?_; first | assumption | exact leftT_mem (by assumption)) | (with_reducible refine need ?_ ?_; first | trivial | omega | exact ⟨by assumption, by omega⟩ | (simp only [List.length_append, List.length_cons, List.length_nil, List.length_map, List.length_take, List.length_drop, List.length_replicate, List.length_set]; omega)) | (with_reducible refine fact ?_ ?_; first | trivial | exact ⟨rfl, rfl⟩ | kernel_rfl) | with_reducible refine choT (by assumption) ?_ | with_reducible refine choF (by assumption) ?_ | with_reducible refine choF' (by assumption) ?_ | (with_reducible refine altT ?_ ?_; first | omega | (simp only [List.length_append, List.length_cons, List.length_nil, List.length_map, List.length_take, List.length_drop, List.length_replicate, List.length_set]; omega)) | with_reducible refine altF ?_ | with_reducible refine all fun _ => ?_ | with_reducible refine both ?_ ?_ | (with_reducible refine choT ?_ ?_; omega) | (with_reducible refine choF ?_ ?_; omega) | with_reducible refine cho (fun _ => ?_) (fun _ => ?_))
      exact again (i + 1, v) (by dsimp only; omega) (by dsimp only; omega) (by dsimp only; rw [hs]; exact Sub.drop_ (.cons _ (.cons_cons _ .slnil)) _)
  · have e : i = l.length := by omega
    subst e
    repeat' (first | with_reducible apply Stp.go | with_reducible refine imp fun _ => ?_ | (with_reducible refine hyp ?_ ?_; first | assumption | exact leftT_mem (by assumption)) | (with_reducible refine need ?_ ?_; first | trivial | omega | exact ⟨by assumption, by omega⟩ | (simp only [List.length_append, List.length_cons, List.length_nil, List.length_map, List.length_take, List.length_drop, List.length_replicate, List.length_set]; omega)) | (with_reducible refine fact ?_ ?_; first | trivial | exact ⟨rfl, rfl⟩ | kernel_rfl) | with_reducible refine choT (by assumption) ?_ | with_reducible refine choF (by assumption) ?_ | with_reducible refine choF' (by assumption) ?_ | (with_reducible refine altT ?_ ?_; first | omega | (simp only [List.length_append, List.length_cons, List.length_nil, List.length_map, List.length_take, List.length_drop, List.length_replicate, List.length_set]; omega)) | with_reducible refine altF ?_ | with_reducible refine all fun _ => ?_ | with_reducible refine both ?_ ?_ | (with_reducible refine choT ?_ ?_; omega) | (with_reducible refine choF ?_ ?_; omega) | with_reducible refine cho (fun _ => ?_) (fun _ => ?_))
    exact ⟨_, _, _, rfl, retOwn (Sub.refl _ _), rfl, rfl⟩
/-- Whether a table is of a level. -/
def onP (k : Int) (x : TabR) : Bool := decide (x.lev = k)
theorem on_ok (k : Int) (f g : List UInt8) (x : TabR) : aPure Go.Proofs.Try.prog 54 [.agg [I .i64 k, S f, S g], tbF x] (B (onP k x)) := by
  refine pick_span_on.go ?_
  unfold pick_span_on.sh
  repeat' (first | with_reducible apply Stp.go | with_reducible refine imp fun _ => ?_ | (with_reducible refine hyp ?_ ?_; first | assumption | exact leftT_mem (by assumption)) | (with_reducible refine need ?_ ?_; first | trivial | omega | exact ⟨by assumption, by omega⟩ | (simp only [List.length_append, List.length_cons, List.length_nil, List.length_map, List.length_take, List.length_drop, List.length_replicate, List.length_set]; omega)) | (with_reducible refine fact ?_ ?_; first | trivial | exact ⟨rfl, rfl⟩ | kernel_rfl) | with_reducible refine choT (by assumption) ?_ | with_reducible refine choF (by assumption) ?_ | with_reducible refine choF' (by assumption) ?_ | (with_reducible refine altT ?_ ?_; first | omega | (simp only [List.length_append, List.length_cons, List.length_nil, List.length_map, List.length_take, List.length_drop, List.length_replicate, List.length_set]; omega)) | with_reducible refine altF ?_ | with_reducible refine all fun _ => ?_ | with_reducible refine both ?_ ?_ | (with_reducible refine choT ?_ ?_; omega) | (with_reducible refine choF ?_ ?_; omega) | with_reducible refine cho (fun _ => ?_) (fun _ => ?_))
  exact ⟨rfl, rfl⟩
def capT : Nat → Nat
  | 0 => 4
  | 1 => 8
  | _ => 32
theorem Cap_ok (k : Nat) (hk : k < 3) : aPure Go.Proofs.Try.prog 55 [I .i64 (k : Nat)] (I .i64 (capT k : Nat)) := by
  refine pick_Cap.go ?_
  unfold pick_Cap.sh
  match k, hk with
  | 0, _ =>
    repeat' (first | with_reducible apply Stp.go | with_reducible refine imp fun _ => ?_ | (with_reducible refine hyp ?_ ?_; first | assumption | exact leftT_mem (by assumption)) | (with_reducible refine need ?_ ?_; first | trivial | omega | exact ⟨by assumption, by omega⟩ | (simp only [List.length_append, List.length_cons, List.length_nil, List.length_map, List.length_take, List.length_drop, List.length_replicate, List.length_set]; omega)) | (with_reducible refine fact ?_ ?_; first | trivial | exact ⟨rfl, rfl⟩ | kernel_rfl) | with_reducible refine choT (by assumption) ?_ | with_reducible refine choF (by assumption) ?_ | with_reducible refine choF' (by assumption) ?_ | (with_reducible refine altT ?_ ?_; first | omega | (simp only [List.length_append, List.length_cons, List.length_nil, List.length_map, List.length_take, List.length_drop, List.length_replicate, List.length_set]; omega)) | with_reducible refine altF ?_ | with_reducible refine all fun _ => ?_ | with_reducible refine both ?_ ?_ | (with_reducible refine choT ?_ ?_; omega) | (with_reducible refine choF ?_ ?_; omega) | with_reducible refine cho (fun _ => ?_) (fun _ => ?_))
    exact ⟨rfl, rfl⟩
  | 1, _ =>
    repeat' (first | with_reducible apply Stp.go | with_reducible refine imp fun _ => ?_ | (with_reducible refine hyp ?_ ?_; first | assumption | exact leftT_mem (by assumption)) | (with_reducible refine need ?_ ?_; first | trivial | omega | exact ⟨by assumption, by omega⟩ | (simp only [List.length_append, List.length_cons, List.length_nil, List.length_map, List.length_take, List.length_drop, List.length_replicate, List.length_set]; omega)) | (with_reducible refine fact ?_ ?_; first | trivial | exact ⟨rfl, rfl⟩ | kernel_rfl) | with_reducible refine choT (by assumption) ?_ | with_reducible refine choF (by assumption) ?_ | with_reducible refine choF' (by assumption) ?_ | (with_reducible refine altT ?_ ?_; first | omega | (simp only [List.length_append, List.length_cons, List.length_nil, List.length_map, List.length_take, List.length_drop, List.length_replicate, List.length_set]; omega)) | with_reducible refine altF ?_ | with_reducible refine all fun _ => ?_ | with_reducible refine both ?_ ?_ | (with_reducible refine choT ?_ ?_; omega) | (with_reducible refine choF ?_ ?_; omega) | with_reducible refine cho (fun _ => ?_) (fun _ => ?_))
    refine s_shl (by decide) ?_
    exact ⟨by rfl, rfl⟩
  | 2, _ =>
    repeat' (first | with_reducible apply Stp.go | with_reducible refine imp fun _ => ?_ | (with_reducible refine hyp ?_ ?_; first | assumption | exact leftT_mem (by assumption)) | (with_reducible refine need ?_ ?_; first | trivial | omega | exact ⟨by assumption, by omega⟩ | (simp only [List.length_append, List.length_cons, List.length_nil, List.length_map, List.length_take, List.length_drop, List.length_replicate, List.length_set]; omega)) | (with_reducible refine fact ?_ ?_; first | trivial | exact ⟨rfl, rfl⟩ | kernel_rfl) | with_reducible refine choT (by assumption) ?_ | with_reducible refine choF (by assumption) ?_ | with_reducible refine choF' (by assumption) ?_ | (with_reducible refine altT ?_ ?_; first | omega | (simp only [List.length_append, List.length_cons, List.length_nil, List.length_map, List.length_take, List.length_drop, List.length_replicate, List.length_set]; omega)) | with_reducible refine altF ?_ | with_reducible refine all fun _ => ?_ | with_reducible refine both ?_ ?_ | (with_reducible refine choT ?_ ?_; omega) | (with_reducible refine choF ?_ ?_; omega) | with_reducible refine cho (fun _ => ?_) (fun _ => ?_))
    refine s_shl (by decide) ?_
    exact ⟨by rfl, rfl⟩
instance {x : Int} {k : Nat} [hx : NatOf x k] : PC Go.Proofs.Try.prog 55 [.val (.int .i64 x)] (k < 3) (I .i64 (capT k : Nat)) := ⟨fun hk => by rw [hx.eq]; exact PC.of (Cap_ok k hk)⟩
instance {a : AV} {l : List TabR} {m : SM} {k : Int} {f g : List UInt8} [h : IsL a tbF 36 l m] : PC Go.Proofs.Try.prog 53 [a, .fn (.func 54) [.agg [.val (.int .i64 k), S f, S g]] []] (l.length ≤ 1000000) (.lst 1 ((posT (onP k) l l.length).map it) .ro) := ⟨fun hl => ⟨[.lst 36 (l.map tbF) m, .fn (.func 54) [.agg [.val (.int .i64 k), S f, S g]] []], ⟨h.sub, SubV.refl _, trivial⟩, places_ok l m _ _ _ hl (on_ok k f g)⟩⟩
/-- Nothing is to be merged. -/
def calm (l : List TabR) : Prop := ∀ k, k < 3 → (posT (onP (k : Nat)) l l.length).length ≤ capT k
theorem Pick_calm (l : List TabR) (m : SM) (hl : l.length ≤ 1000000) (hc : calm l) : aPure Go.Proofs.Try.prog 32 [.lst 36 (l.map tbF) m] (.tuple [.lst 1 (([] : List Int).map it) .ro, I .i64 0, B false]) := by
  refine ACalls.fin (pick_Pick.go ?_)
  unfold pick_Pick.sh
  repeat' (first | with_reducible apply Stp.go | with_reducible refine imp fun _ => ?_ | (with_reducible refine hyp ?_ ?_; first | assumption | exact leftT_mem (by assumption)) | (with_reducible refine need ?_ ?_; first | trivial | omega | exact ⟨by assumption, by omega⟩ | (simp only [List.length_append, List.length_cons, List.length_nil, List.length_map, List.length_take, List.length_drop, List.length_replicate, List.length_set]; omega)) | (with_reducible refine fact ?_ ?_; first | trivial | exact ⟨rfl, rfl⟩ | kernel_rfl) | with_reducible refine choT (by assumption) ?_ | with_reducible refine choF (by assumption) ?_ | with_reducible refine choF' (by assumption) ?_ | (with_reducible refine altT ?_ ?_; first | omega | (simp only [List.length_append, List.length_cons, List.length_nil, List.length_map, List.length_take, List.length_drop, List.length_replicate, List.length_set]; omega)) | with_reducible refine altF ?_ | with_reducible refine all fun _ => ?_ | with_reducible refine both ?_ ?_ | (with_reducible refine choT ?_ ?_; omega) | (with_reducible refine choF ?_ ?_; omega) | with_reducible refine cho (fun _ => ?_) (fun _ => ?_))
  refine loopI (β := Nat) (fun k => k ≤ 3) (fun k => [.lst 36 (l.map tbF) m, I .i64 (k : Nat)]) (fun _ => []) (fun k => 3 - k) 0 (Nat.zero_le _) (Sub.refl _ _) ?_
  intro k hk
  dsimp only at hk ⊢
  by_cases h3 : k < 3
  · have h4 := hc k h3
    have h5 := posT_len (onP (k : Nat)) l l.length
    have h6 : capT k ≤ 32 := by unfold capT; split <;> decide
    repeat' (first | with_reducible apply Stp.go | with_reducible refine imp fun _ => ?_ | (with_reducible refine hyp ?_ ?_; first | assumption | exact leftT_mem (by assumption)) | (with_reducible refine need ?_ ?_; first | trivial | omega | exact ⟨by assumption, by omega⟩ | (simp only [List.length_append, List.length_cons, List.length_nil, List.length_map, List.length_take, List.length_drop, List.length_replicate, List.length_set]; omega)) | (with_reducible refine fact ?_ ?_; first | trivial | exact ⟨rfl, rfl⟩ | kernel_rfl) | with_reducible refine choT (by assumption) ?_ | with_reducible refine choF (by assumption) ?_ | with_reducible refine choF' (by assumption) ?_ | (with_reducible refine altT ?_ ?_; first | omega | (simp only [List.length_append, List.length_cons, List.length_nil, List.length_map, List.length_take, List.length_drop, List.length_replicate, List.length_set]; omega)) | with_reducible refine altF ?_ | with_reducible refine all fun _ => ?_ | with_reducible refine both ?_ ?_ | (with_reducible refine choT ?_ ?_; omega) | (with_reducible refine choF ?_ ?_; omega) | with_reducible refine cho (fun _ => ?_) (fun _ => ?_))
    exact again (k + 1) (by omega) (by omega) (Sub.refl _ _)
  · repeat' (first | with_reducible apply Stp.go | with_reducible refine imp fun _ => ?_ | (with_reducible refine hyp ?_ ?_; first | assumption | exact leftT_mem (by assumption)) | (with_reducible refine need ?_ ?_; first | trivial | omega | exact ⟨by assumption, by omega⟩ | (simp only [List.length_append, List.length_cons, List.length_nil, List.length_map, List.length_take, List.length_drop, List.length_replicate, List.length_set]; omega)) | (with_reducible refine fact ?_ ?_; first | trivial | exact ⟨rfl, rfl⟩ | kernel_rfl) | with_reducible refine choT (by assumption) ?_ | with_reducible refine choF (by assumption) ?_ | with_reducible refine choF' (by assumption) ?_ | (with_reducible refine altT ?_ ?_; first | omega | (simp only [List.length_append, List.length_cons, List.length_nil, List.length_map, List.length_take, List.length_drop, List.length_replicate, List.length_set]; omega)) | with_reducible refine altF ?_ | with_reducible refine all fun _ => ?_ | with_reducible refine both ?_ ?_ | (with_reducible refine choT ?_ ?_; omega) | (with_reducible refine choF ?_ ?_; omega) | with_reducible refine cho (fun _ => ?_) (fun _ => ?_))
    exact ⟨_, _, _, rfl, Sub.tuple (retNil it (sz := 1) (by decide) (Sub.app_nil _)), rfl, rfl⟩
theorem Inputs_calm (l : List TabR) (m : SM) (hl : l.length ≤ 1000000) (hc : calm l) : aPure Go.Proofs.Try.prog 15 [.lst 36 (l.map tbF) m] (.tuple [.lst 1 (([] : List Int).map it) .ro, I .i64 0, B false]) := by
  refine ACalls.fin (move_Inputs.go ?_)
  unfold move_Inputs.sh
  have iP : PC Go.Proofs.Try.prog 32 [.lst 36 (l.map tbF) m] True (.tuple [.lst 1 (([] : List Int).map it) .ro, I .i64 0, B false]) := ⟨fun _ => PC.of (Pick_calm l m hl hc)⟩
  repeat' (first | with_reducible apply Stp.go | with_reducible refine imp fun _ => ?_ | (with_reducible refine hyp ?_ ?_; first | assumption | exact leftT_mem (by assumption)) | (with_reducible refine need ?_ ?_; first | trivial | omega | exact ⟨by assumption, by omega⟩ | (simp only [List.length_append, List.length_cons, List.length_nil, List.length_map, List.length_take, List.length_drop, List.length_replicate, List.length_set]; omega)) | (with_reducible refine fact ?_ ?_; first | trivial | exact ⟨rfl, rfl⟩ | kernel_rfl) | with_reducible refine choT (by assumption) ?_ | with_reducible refine choF (by assumption) ?_ | with_reducible refine choF' (by assumption) ?_ | (with_reducible refine altT ?_ ?_; first | omega | (simp only [List.length_append, List.length_cons, List.length_nil, List.length_map, List.length_take, List.length_drop, List.length_replicate, List.length_set]; omega)) | with_reducible refine altF ?_ | with_reducible refine all fun _ => ?_ | with_reducible refine both ?_ ?_ | (with_reducible refine choT ?_ ?_; omega) | (with_reducible refine choF ?_ ?_; omega) | with_reducible refine cho (fun _ => ?_) (fun _ => ?_))
  all_goals first
    | exact ⟨_, _, _, rfl, Sub.refl _ _, rfl, rfl⟩
    | exact ⟨_, _, _, rfl, Sub.tuple (retNil it (sz := 1) (by decide) (Sub.app_nil _)), rfl, rfl⟩
theorem Compact_calm (b : Int) (l : List TabR) (m : SM) (hl : l.length ≤ 1000000) (hr : rightT l = true) (hc : calm l) : aPure Go.Proofs.Try.prog 18 [trA b, .lst 36 (l.map tbF) m, .val (.slice none 0 0)] (.tuple [.val (.slice none 0 0), .val (.slice none 0 0), I .i64 5]) := by
  refine ACalls.fin (move_Compact.go ?_)
  unfold move_Compact.sh
  have iP : PC Go.Proofs.Try.prog 32 [.lst 36 (l.map tbF) m] True (.tuple [.lst 1 (([] : List Int).map it) .ro, I .i64 0, B false]) := ⟨fun _ => PC.of (Pick_calm l m hl hc)⟩
  have hff : ¬ (false : Bool) = true := by decide
  repeat' (first | with_reducible apply Stp.go | with_reducible refine imp fun _ => ?_ | (with_reducible refine hyp ?_ ?_; first | assumption | exact leftT_mem (by assumption)) | (with_reducible refine need ?_ ?_; first | trivial | omega | exact ⟨by assumption, by omega⟩ | (simp only [List.length_append, List.length_cons, List.length_nil, List.length_map, List.length_take, List.length_drop, List.length_replicate, List.length_set]; omega)) | (with_reducible refine fact ?_ ?_; first | trivial | exact ⟨rfl, rfl⟩ | kernel_rfl) | with_reducible refine choT (by assumption) ?_ | with_reducible refine choF (by assumption) ?_ | with_reducible refine choF' (by assumption) ?_ | (with_reducible refine altT ?_ ?_; first | omega | (simp only [List.length_append, List.length_cons, List.length_nil, List.length_map, List.length_take, List.length_drop, List.length_replicate, List.length_set]; omega)) | with_reducible refine altF ?_ | with_reducible refine all fun _ => ?_ | with_reducible refine both ?_ ?_ | (with_reducible refine choT ?_ ?_; omega) | (with_reducible refine choF ?_ ?_; omega) | with_reducible refine cho (fun _ => ?_) (fun _ => ?_))
  exact ⟨_, _, _, rfl, Sub.refl _ _, rfl, rfl⟩
theorem rFlush_ok (b : Int) (l : List TabR) (p : List En) (m m' : SM) (hl : l.length ≤ 1000000) (hp : p.length ≤ 1000000) : aPure Go.Proofs.Try.prog 10 [I .i64 b, .lst 36 (l.map tbF) m, .lst 4 (p.map En.av) m'] (.tuple [.lst 36 ((flushT b l p).1.map tbF) .ro, I .i64 ((flushT b l p).2 : Nat)]) := by
  refine ACalls.fin (ref17_Flush.go ?_)
  unfold ref17_Flush.sh
  unfold flushT
  by_cases hr : rightT l = true
  · by_cases hf : fit p = true
    · rw [if_pos ⟨hr, hf⟩]
      by_cases h5 : l.length < 512
      · rw [if_pos h5]
        have iD : ∀ {a : AV} {m : SM} [h : IsL a En.av 4 p m], PC Go.Proofs.Try.prog 25 [I .i64 b, .val (.int .i64 0), a] True (.tuple [tbF (newT b 0 p), .val (.int .i64 0)]) := refDesc (b := b) (lev := 0) rfl hf (by decide)
        repeat' (first | with_reducible apply Stp.go | with_reducible refine imp fun _ => ?_ | (with_reducible refine hyp ?_ ?_; first | assumption | exact leftT_mem (by assumption)) | (with_reducible refine need ?_ ?_; first | trivial | omega | exact ⟨by assumption, by omega⟩ | (simp only [List.length_append, List.length_cons, List.length_nil, List.length_map, List.length_take, List.length_drop, List.length_replicate, List.length_set]; omega)) | (with_reducible refine fact ?_ ?_; first | trivial | exact ⟨rfl, rfl⟩ | kernel_rfl) | with_reducible refine choT (by assumption) ?_ | with_reducible refine choF (by assumption) ?_ | with_reducible refine choF' (by assumption) ?_ | (with_reducible refine altT ?_ ?_; first | omega | (simp only [List.length_append, List.length_cons, List.length_nil, List.length_map, List.length_take, List.length_drop, List.length_replicate, List.length_set]; omega)) | with_reducible refine altF ?_ | with_reducible refine all fun _ => ?_ | with_reducible refine both ?_ ?_ | (with_reducible refine choT ?_ ?_; omega) | (with_reducible refine choF ?_ ?_; omega) | with_reducible refine cho (fun _ => ?_) (fun _ => ?_))
        exact ⟨_, _, _, rfl, Sub.tuple (retOwn (Sub.app_nil _)), rfl, rfl⟩
      · rw [if_neg h5]
        repeat' (first | with_reducible apply Stp.go | with_reducible refine imp fun _ => ?_ | (with_reducible refine hyp ?_ ?_; first | assumption | exact leftT_mem (by assumption)) | (with_reducible refine need ?_ ?_; first | trivial | omega | exact ⟨by assumption, by omega⟩ | (simp only [List.length_append, List.length_cons, List.length_nil, List.length_map, List.length_take, List.length_drop, List.length_replicate, List.length_set]; omega)) | (with_reducible refine fact ?_ ?_; first | trivial | exact ⟨rfl, rfl⟩ | kernel_rfl) | with_reducible refine choT (by assumption) ?_ | with_reducible refine choF (by assumption) ?_ | with_reducible refine choF' (by assumption) ?_ | (with_reducible refine altT ?_ ?_; first | omega | (simp only [List.length_append, List.length_cons, List.length_nil, List.length_map, List.length_take, List.length_drop, List.length_replicate, List.length_set]; omega)) | with_reducible refine altF ?_ | with_reducible refine all fun _ => ?_ | with_reducible refine both ?_ ?_ | (with_reducible refine choT ?_ ?_; omega) | (with_reducible refine choF ?_ ?_; omega) | with_reducible refine cho (fun _ => ?_) (fun _ => ?_))
        all_goals exact ⟨_, _, _, rfl, Sub.tuple (retNil tbF (sz := 36) (by decide) (Sub.app_nil _)), rfl, rfl⟩
    · rw [if_neg (fun h => hf h.2)]
      repeat' (first | with_reducible apply Stp.go | with_reducible refine imp fun _ => ?_ | (with_reducible refine hyp ?_ ?_; first | assumption | exact leftT_mem (by assumption)) | (with_reducible refine need ?_ ?_; first | trivial | omega | exact ⟨by assumption, by omega⟩ | (simp only [List.length_append, List.length_cons, List.length_nil, List.length_map, List.length_take, List.length_drop, List.length_replicate, List.length_set]; omega)) | (with_reducible refine fact ?_ ?_; first | trivial | exact ⟨rfl, rfl⟩ | kernel_rfl) | with_reducible refine choT (by assumption) ?_ | with_reducible refine choF (by assumption) ?_ | with_reducible refine choF' (by assumption) ?_ | (with_reducible refine altT ?_ ?_; first | omega | (simp only [List.length_append, List.length_cons, List.length_nil, List.length_map, List.length_take, List.length_drop, List.length_replicate, List.length_set]; omega)) | with_reducible refine altF ?_ | with_reducible refine all fun _ => ?_ | with_reducible refine both ?_ ?_ | (with_reducible refine choT ?_ ?_; omega) | (with_reducible refine choF ?_ ?_; omega) | with_reducible refine cho (fun _ => ?_) (fun _ => ?_))
      all_goals exact ⟨_, _, _, rfl, Sub.tuple (retNil tbF (sz := 36) (by decide) (Sub.app_nil _)), rfl, rfl⟩
  · rw [if_neg (fun h => hr h.1)]
    repeat' (first | with_reducible apply Stp.go | with_reducible refine imp fun _ => ?_ | (with_reducible refine hyp ?_ ?_; first | assumption | exact leftT_mem (by assumption)) | (with_reducible refine need ?_ ?_; first | trivial | omega | exact ⟨by assumption, by omega⟩ | (simp only [List.length_append, List.length_cons, List.length_nil, List.length_map, List.length_take, List.length_drop, List.length_replicate, List.length_set]; omega)) | (with_reducible refine fact ?_ ?_; first | trivial | exact ⟨rfl, rfl⟩ | kernel_rfl) | with_reducible refine choT (by assumption) ?_ | with_reducible refine choF (by assumption) ?_ | with_reducible refine choF' (by assumption) ?_ | (with_reducible refine altT ?_ ?_; first | omega | (simp only [List.length_append, List.length_cons, List.length_nil, List.length_map, List.length_take, List.length_drop, List.length_replicate, List.length_set]; omega)) | with_reducible refine altF ?_ | with_reducible refine all fun _ => ?_ | with_reducible refine both ?_ ?_ | (with_reducible refine choT ?_ ?_; omega) | (with_reducible refine choF ?_ ?_; omega) | with_reducible refine cho (fun _ => ?_) (fun _ => ?_))
    all_goals exact ⟨_, _, _, rfl, Sub.tuple (retNil tbF (sz := 36) (by decide) (Sub.app_nil _)), rfl, rfl⟩
instance {a c : AV} {b : Int} {l : List TabR} {p : List En} {m m' : SM} [h : IsL a tbF 36 l m] [h' : IsL c En.av 4 p m'] : PC Go.Proofs.Try.prog 9 [trA b, a, c] (l.length ≤ 1000000 ∧ p.length ≤ 1000000) (.tuple [.lst 36 ((flushT b l p).1.map tbF) .ro, I .i64 ((flushT b l p).2 : Nat)]) := ⟨fun hl => ⟨[trA b, .lst 36 (l.map tbF) m, .lst 4 (p.map En.av) m'], ⟨SubV.refl _, h.sub, h'.sub, trivial⟩, Flush_ok b l p m m' hl.1 hl.2⟩⟩
instance {a c : AV} {b : Int} {l : List TabR} {p : List En} {m m' : SM} [h : IsL a tbF 36 l m] [h' : IsL c En.av 4 p m'] : PC Go.Proofs.Try.prog 10 [I .i64 b, a, c] (l.length ≤ 1000000 ∧ p.length ≤ 1000000) (.tuple [.lst 36 ((flushT b l p).1.map tbF) .ro, I .i64 ((flushT b l p).2 : Nat)]) := ⟨fun hl => ⟨[I .i64 b, .lst 36 (l.map tbF) m, .lst 4 (p.map En.av) m'], ⟨SubV.refl _, h.sub, h'.sub, trivial⟩, rFlush_ok b l p m m' hl.1 hl.2⟩⟩
theorem few17_ok (l : List En) (m : SM) (k : Nat) (hl : l.length ≤ 100000000000000) (hk : k ≤ 1000) : aPure Go.Proofs.Try.prog 8 [.lst 4 (l.map En.av) m, I .i64 (k : Nat)] (.lst 4 (((l.take k).map (cutE 130 200)).map En.av) .ro) := by
  refine ACalls.fin (law17_few.go ?_)
  unfold law17_few.sh
  repeat' (first | with_reducible apply Stp.go | with_reducible refine imp fun _ => ?_ | (with_reducible refine hyp ?_ ?_; first | assumption | exact leftT_mem (by assumption)) | (with_reducible refine need ?_ ?_; first | trivial | omega | exact ⟨by assumption, by omega⟩ | (simp only [List.length_append, List.length_cons, List.length_nil, List.length_map, List.length_take, List.length_drop, List.length_replicate, List.length_set]; omega)) | (with_reducible refine fact ?_ ?_; first | trivial | exact ⟨rfl, rfl⟩ | kernel_rfl) | with_reducible refine choT (by assumption) ?_ | with_reducible refine choF (by assumption) ?_ | with_reducible refine choF' (by assumption) ?_ | (with_reducible refine altT ?_ ?_; first | omega | (simp only [List.length_append, List.length_cons, List.length_nil, List.length_map, List.length_take, List.length_drop, List.length_replicate, List.length_set]; omega)) | with_reducible refine altF ?_ | with_reducible refine all fun _ => ?_ | with_reducible refine both ?_ ?_ | (with_reducible refine choT ?_ ?_; omega) | (with_reducible refine choF ?_ ?_; omega) | with_reducible refine cho (fun _ => ?_) (fun _ => ?_))
  refine loopI (β := Nat × Value) (fun x => x.1 ≤ l.length ∧ x.1 ≤ k) (fun x => [.lst 4 (l.map En.av) m, I .i64 (k : Nat), .own x.2 x.1, I .i64 (x.1 : Nat)]) (fun x => [.row x.2 45 4 (((l.take x.1).map (cutE 130 200)).map En.av) 0]) (fun x => k - x.1) (0, _) ⟨Nat.zero_le _, Nat.zero_le _⟩ (Sub.nil_own 45 (by decide) _ [_, _] [_]) ?_
  rintro ⟨i, v⟩ ⟨h1, h2⟩
  dsimp only at h1 h2 ⊢
  repeat' (first | with_reducible apply Stp.go | with_reducible refine imp fun _ => ?_ | (with_reducible refine hyp ?_ ?_; first | assumption | exact leftT_mem (by assumption)) | (with_reducible refine need ?_ ?_; first | trivial | omega | exact ⟨by assumption, by omega⟩ | (simp only [List.length_append, List.length_cons, List.length_nil, List.length_map, List.length_take, List.length_drop, List.length_replicate, List.length_set]; omega)) | (with_reducible refine fact ?_ ?_; first | trivial | exact ⟨rfl, rfl⟩ | kernel_rfl) | with_reducible refine choT (by assumption) ?_ | with_reducible refine choF (by assumption) ?_ | with_reducible refine choF' (by assumption) ?_ | (with_reducible refine altT ?_ ?_; first | omega | (simp only [List.length_append, List.length_cons, List.length_nil, List.length_map, List.length_take, List.length_drop, List.length_replicate, List.length_set]; omega)) | with_reducible refine altF ?_ | with_reducible refine all fun _ => ?_ | with_reducible refine both ?_ ?_ | (with_reducible refine choT ?_ ?_; omega) | (with_reducible refine choF ?_ ?_; omega) | with_reducible refine cho (fun _ => ?_) (fun _ => ?_))
  · rename_i w
    refine again (i + 1, w) (by dsimp only; omega) ⟨by dsimp only; omega, by dsimp only; omega⟩ ?_
    have e : (l.take (i + 1)).map (cutE 130 200) = (l.take i).map (cutE 130 200) ++ [cutE 130 200 (l.getD i default)] := by rw [take_succ_d (by omega), List.map_append]; rfl
    have en : ((l.take i).map (cutE 130 200)).length = i := by simp; omega
    dsimp only
    rw [e, List.length_append, en, take_minN, take_minN]
    exact Sub.drop_ (List.sublist_cons_self _ _) _
  · have e : i = min l.length k := by omega
    refine ⟨_, _, _, rfl, retOwn (Sub.refl _ _), ?_, rfl⟩
    rw [e, take_minN]
  · have e : i = min l.length k := by omega
    refine ⟨_, _, _, rfl, retOwn (Sub.refl _ _), ?_, rfl⟩
    rw [e, take_minN]
instance {a : AV} {l : List En} {m : SM} {k : Nat} {x : Int} [h : IsL a En.av 4 l m] [hk : NatOf x k] : PC Go.Proofs.Try.prog 8 [a, .val (.int .i64 x)] (l.length ≤ 100000000000000 ∧ k ≤ 1000) (.lst 4 (((l.take k).map (cutE 130 200)).map En.av) .ro) := ⟨fun hl => by rw [hk.eq]; exact ⟨[.lst 4 (l.map En.av) m, I .i64 (k : Nat)], ⟨h.sub, SubVs.refl _⟩, few17_ok l m k hl.1 hl.2⟩⟩
theorem shown17_ok : aPure Go.Proofs.Try.prog 7 [] (B true) := by
  refine ACalls.fin (law17_shown.go ?_)
  unfold law17_shown.sh
  have hf : fit [⟨[97], [], false, 1⟩] = true := by decide
  have hF : flushT 256 [] [⟨[97], [], false, 1⟩] = ([newT 256 0 [⟨[97], [], false, 1⟩]], 0) := by
    unfold flushT
    rw [if_pos ⟨by decide, hf⟩]
    rfl
  obtain ⟨N, hN⟩ : ∃ N, N = newT 256 0 [⟨[97], [], false, 1⟩] := ⟨_, rfl⟩
  have n1 : N.lev = 0 := by rw [hN]; rfl
  have n2 : N.cnt = 1 := by rw [hN]; rfl
  have n3 : N.fst = [97] := by rw [hN]; rfl
  have n4 : N.lst = [97] := by rw [hN]; rfl
  rw [← hN] at hF
  clear hN
  have hr : rightT [N] = true := by
    unfold rightT
    rw [Bool.and_eq_true, decide_eq_true_eq, decide_eq_true_eq]
    refine ⟨fun i hi => ?_, by simp⟩
    have : i = 0 := by simpa using hi
    subst this
    unfold okT
    show (mayT N && (decide (0 = 0) || _)) = true
    unfold mayT
    rw [n1, n2, n3, n4]
    rfl
  have hc : calm [N] := fun k hk => Nat.le_trans (posT_len _ _ _) (by unfold capT; split <;> simp)
  have iF : ∀ {a c : AV} {m m' : SM} [h : IsL a tbF 36 ([] : List TabR) m] [h' : IsL c En.av 4 [⟨[97], [], false, 1⟩] m'], PC Go.Proofs.Try.prog 9 [trA 256, a, c] True (.tuple [.lst 36 ([N].map tbF) .ro, I .i64 (0 : Nat)]) := fun {a c m m'} h h' => ⟨fun _ => by
    have := (inferInstance : PC Go.Proofs.Try.prog 9 [trA 256, a, c] _ _).ct ⟨by decide, by decide⟩
    rw [hF] at this
    exact this⟩
  have iI : PC Go.Proofs.Try.prog 15 [.lst 36 ([N].map tbF) .ro] True (.tuple [.lst 1 (([] : List Int).map it) .ro, I .i64 0, B false]) := ⟨fun _ => PC.of (Inputs_calm [N] .ro (by simp) hc)⟩
  have iC : PC Go.Proofs.Try.prog 18 [trA 256, .lst 36 ([N].map tbF) .ro, .val (.slice none 0 0)] True (.tuple [.val (.slice none 0 0), .val (.slice none 0 0), I .i64 5]) := ⟨fun _ => PC.of (Compact_calm 256 [N] .ro (by simp) hr hc)⟩
  repeat' (first | with_reducible apply Stp.go | with_reducible refine imp fun _ => ?_ | (with_reducible refine hyp ?_ ?_; first | assumption | exact leftT_mem (by assumption)) | (with_reducible refine need ?_ ?_; first | trivial | omega | exact ⟨by assumption, by omega⟩ | (simp only [List.length_append, List.length_cons, List.length_nil, List.length_map, List.length_take, List.length_drop, List.length_replicate, List.length_set]; omega)) | (with_reducible refine fact ?_ ?_; first | trivial | exact ⟨rfl, rfl⟩ | kernel_rfl) | with_reducible refine choT (by assumption) ?_ | with_reducible refine choF (by assumption) ?_ | with_reducible refine choF' (by assumption) ?_ | (with_reducible refine altT ?_ ?_; first | omega | (simp only [List.length_append, List.length_cons, List.length_nil, List.length_map, List.length_take, List.length_drop, List.length_replicate, List.length_set]; omega)) | with_reducible refine altF ?_ | with_reducible refine all fun _ => ?_ | with_reducible refine both ?_ ?_ | (with_reducible refine choT ?_ ?_; omega) | (with_reducible refine choF ?_ ?_; omega) | with_reducible refine cho (fun _ => ?_) (fun _ => ?_))
  all_goals first
    | exact ⟨_, _, _, rfl, Sub.app_nil _, rfl, rfl⟩
    | (exfalso; simp_all; done)
instance : PC Go.Proofs.Try.prog 7 [] True (B true) := ⟨fun _ => PC.of shown17_ok⟩
theorem flushT_len (b : Int) (l : List TabR) (p : List En) : (flushT b l p).1.length ≤ l.length + 1 := by
  unfold flushT
  split
  · split
    · simp
    · exact Nat.zero_le _
  · exact Nat.zero_le _
theorem MoveFlushes_at (b : Int) (l : List TabR) (m : SM) (p : List En) (m' : SM) (hl : l.length ≤ 9223372036854775807) (hp : p.length ≤ 100000000000000) : aPure Go.Proofs.Try.prog 3 [I .i64 b, .lst 36 (l.map tbF) m, .lst 4 (p.map En.av) m'] (B true) := by
  refine ACalls.fin (law17_MoveFlushes.go ?_)
  unfold law17_MoveFlushes.sh
  have hfl := flushT_len b (l.take (min l.length 20)) ((p.take 70).map (cutE 130 200))
  have hx : (l.take (min l.length 20)).length ≤ 20 := by rw [List.length_take]; omega
  have hy : ((p.take 70).map (cutE 130 200)).length ≤ 70 := by rw [List.length_map, List.length_take]; omega
  have q0 : (true : Bool) = true := rfl
  have q1 : (flushT b (l.take (min l.length 20)) ((p.take 70).map (cutE 130 200))).1 = (flushT b (l.take (min l.length 20)) ((p.take 70).map (cutE 130 200))).1 := rfl
  have q2 : (flushT b (l.take (min l.length 20)) ((p.take 70).map (cutE 130 200))).2 = (flushT b (l.take (min l.length 20)) ((p.take 70).map (cutE 130 200))).2 := rfl
  repeat' (first | with_reducible apply Stp.go | with_reducible refine imp fun _ => ?_ | (with_reducible refine hyp ?_ ?_; first | assumption | exact leftT_mem (by assumption)) | (with_reducible refine need ?_ ?_; first | trivial | omega | exact ⟨by assumption, by omega⟩ | (simp only [List.length_append, List.length_cons, List.length_nil, List.length_map, List.length_take, List.length_drop, List.length_replicate, List.length_set]; omega)) | (with_reducible refine fact ?_ ?_; first | trivial | exact ⟨rfl, rfl⟩ | kernel_rfl) | with_reducible refine choT (by assumption) ?_ | with_reducible refine choF (by assumption) ?_ | with_reducible refine choF' (by assumption) ?_ | (with_reducible refine altT ?_ ?_; first | omega | (simp only [List.length_append, List.length_cons, List.length_nil, List.length_map, List.length_take, List.length_drop, List.length_replicate, List.length_set]; omega)) | with_reducible refine altF ?_ | with_reducible refine all fun _ => ?_ | with_reducible refine both ?_ ?_ | (with_reducible refine choT ?_ ?_; omega) | (with_reducible refine choF ?_ ?_; omega) | with_reducible refine cho (fun _ => ?_) (fun _ => ?_))
  all_goals first
    | (refine ⟨_, _, _, rfl, Sub.app_nil _, ?_, rfl⟩
       rw [decide_eq_true rfl])
theorem MoveFlushes_ok (b : Int) (l : List TabR) (m : SM) (p : List En) (m' : SM) (hb : (Lit.int .i64 b).wf = true) (hl : (∀ a ∈ l, okTb a) ∧ l.length ≤ maxLen) (hp : p.length ≤ 100000000000000) : aPure Go.Proofs.Try.prog 3 [I .i64 b, .lst 36 (l.map tbF) m, .lst 4 (p.map En.av) m'] (B true) := MoveFlushes_at b l m p m' (by have := hl.2; simpa [maxLen] using this) hp
end Go.Ab
