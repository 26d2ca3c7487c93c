/- The texts that this claim needs, part 11: a logic over abstract values, its steps, what the functions do. No condition of its own. -/
import Derived.Laws.BitsAllLaws
import Derived.Test.YtfbdncmmnelklaaTableBytesK10
/- The document's sum of a text: its first bits. -/
set_option linter.unusedVariables false
set_option linter.unusedSimpArgs false
namespace Go.Ab
instance andNot8 {P : Program} {t : TypeId} {x y : Int} {v w : UInt8} {K : AV → Prop} [h : U8Of x v] [k : U8Of y w] : Stp (Do (aBin P .andNot t (.val (.int .u8 x)) (.val (.int .u8 y))) K) (K (W8 (v &&& ~~~w))) := ⟨fun hK => ⟨_, by
  refine (aBin_val fun _ _ w0 => ?_).2 rfl
  have e : bits .andNot .u8 x y = (((v &&& ~~~w).toNat : Nat) : Int) := by
    rw [h.eq, k.eq, u8_andNot_nat v.toNat w.toNat v.toNat_lt w.toNat_lt, UInt8.toNat_and, UInt8.toNat_not]
    rfl
  rw [← e]
  simp [eqGuard, binOp, intBits_andNot], hK⟩⟩
def ref02_Kept.mark : Mark := ⟨fun t => Nat.beq t 8, fun t => false, fun t => false, fun t => false, fun t => false⟩
def ref02_Kept.ann : Ann := ⟨fun n => bif Nat.beq n 3 then [1, 4, 5, 6] else [], fun n => none, fun n => none⟩
/-- 'marlstone/marlstoneref02.Kept' -/
def ref02_Kept.sh (a0 a1 : AV) (σ : Store) (Q : AEnd → Store → Prop) : Prop :=
  aNewVar 32 [.val (.int .u8 0), .val (.int .u8 0), .val (.int .u8 0), .val (.int .u8 0), .val (.int .u8 0), .val (.int .u8 0), .val (.int .u8 0), .val (.int .u8 0), .val (.int .u8 0), .val (.int .u8 0), .val (.int .u8 0), .val (.int .u8 0), .val (.int .u8 0), .val (.int .u8 0), .val (.int .u8 0), .val (.int .u8 0), .val (.int .u8 0), .val (.int .u8 0), .val (.int .u8 0), .val (.int .u8 0), .val (.int .u8 0), .val (.int .u8 0), .val (.int .u8 0), .val (.int .u8 0), .val (.int .u8 0), .val (.int .u8 0), .val (.int .u8 0), .val (.int .u8 0), .val (.int .u8 0), .val (.int .u8 0), .val (.int .u8 0), .val (.int .u8 0)] σ fun t4 σ =>
  Do (aPureC Go.Proofs.Try.prog 86 [a0]) fun t8 =>
  aNewVar 32 [.val (.int .u8 0), .val (.int .u8 0), .val (.int .u8 0), .val (.int .u8 0), .val (.int .u8 0), .val (.int .u8 0), .val (.int .u8 0), .val (.int .u8 0), .val (.int .u8 0), .val (.int .u8 0), .val (.int .u8 0), .val (.int .u8 0), .val (.int .u8 0), .val (.int .u8 0), .val (.int .u8 0), .val (.int .u8 0), .val (.int .u8 0), .val (.int .u8 0), .val (.int .u8 0), .val (.int .u8 0), .val (.int .u8 0), .val (.int .u8 0), .val (.int .u8 0), .val (.int .u8 0), .val (.int .u8 0), .val (.int .u8 0), .val (.int .u8 0), .val (.int .u8 0), .val (.int .u8 0), .val (.int .u8 0), .val (.int .u8 0), .val (.int .u8 0)] σ fun t5 σ_1 =>
  storeA 32 t5 t8 σ_1 fun u σ_2 =>
  aLoop (fun go vs σ_3 =>
    At vs 0 fun s1 => At vs 1 fun s4 => At vs 2 fun s5 => At vs 3 fun s6 => Do (aBin Go.Proofs.Try.prog .lss 3 s6 (.val (.int .i64 256))) fun t10 =>
    aCond t10
      (Do (aBin Go.Proofs.Try.prog .geq 3 s6 s1) fun t15 =>
    aCond t15
      (Do (aBin Go.Proofs.Try.prog .quo 3 s6 (.val (.int .i64 8))) fun t17 =>
      Do (aBin Go.Proofs.Try.prog .quo 3 s6 (.val (.int .i64 8))) fun t19 =>
      Do (aIndexAddr (.array 32) 1 s5 t19) fun t20 =>
      Do (loadA false 1 t20 σ_3) fun t21 =>
      Do (aBin Go.Proofs.Try.prog .rem 3 s6 (.val (.int .i64 8))) fun t23 =>
      Do (fun x => aConvN 3 103 t23 x Go.Proofs.Try.prog) fun t24 =>
      Do (aBin Go.Proofs.Try.prog .shr 5 (W8 128) t24) fun t25 =>
      Do (aBin Go.Proofs.Try.prog .andNot 5 t21 t25) fun t26 =>
      Do (aIndexAddr (.array 32) 1 s5 t17) fun t27 =>
      storeA 1 t27 t26 σ_3 fun u_1 σ_4 =>
      Do (aBin Go.Proofs.Try.prog .add 3 s6 (.val (.int .i64 1))) fun t12 =>
    go [s1, s4, s5, t12] σ_4)
      (Do (aBin Go.Proofs.Try.prog .add 3 s6 (.val (.int .i64 1))) fun t12_1 =>
    go [s1, s4, s5, t12_1] σ_3))
      (Do (loadA true 32 s5 σ_3) fun t28 =>
  storeA 32 s4 t28 σ_3 fun u_2 σ_5 =>
  Do (loadA true 32 s4 σ_5) fun r4 => Q (.ret r4) σ_5))
    [a1, t4, t5, (.val (.int .i64 0))] σ_2
theorem ref02_Kept.eq (a0 a1 : AV) (σ : Store) (Q : AEnd → Store → Prop) : vc (semOf Go.Proofs.Try.prog ref02_Kept.mark) Go.Proofs.Try.f70.ntmps ref02_Kept.ann (bodyOf Go.Proofs.Try.f70) (endK [.cell 4 true 32] Q) (argFr [a0, a1]) σ = ref02_Kept.sh a0 a1 σ Q := by kernel_rfl
theorem ref02_Kept.go {a0 a1 : AV} {σ : Store} {Q : AEnd → Store → Prop} (h : ref02_Kept.sh a0 a1 σ Q) : ACalls Go.Proofs.Try.prog 70 [a0, a1] σ Q :=
  acalls_of_eq [.cell 4 true 32] Go.Proofs.Try.func70 (by kernel_rfl) (by kernel_rfl) (by kernel_rfl) (by kernel_rfl) (ref02_Kept.eq a0 a1 σ Q) h
theorem ref02_Kept_ok (l : List UInt8) (bits : Int) (hl : l.length ≤ 100000000000000) : aPure Go.Proofs.Try.prog 70 [S l, I .i64 bits] (.agg ((kept l bits).map byt)) := by
  refine ACalls.fin (ref02_Kept.go ?_)
  unfold ref02_Kept.sh
  have h32 := sha_length l
  have hall := clrN_all bits h32
  have hk : kept l bits = clrN bits (sha l) 256 := hall.symm
  rw [hk]
  repeat' (first | with_reducible apply Stp.go | with_reducible refine imp fun _ => ?_ | (with_reducible refine hyp ?_ ?_; first | assumption | exact leftT_mem (by assumption)) | (with_reducible refine need ?_ ?_; first | trivial | omega | exact ⟨by assumption, by omega⟩ | (simp only [List.length_append, List.length_cons, List.length_nil, List.length_map, List.length_take, List.length_drop, List.length_replicate, List.length_set]; omega)) | (with_reducible refine fact ?_ ?_; first | trivial | exact ⟨rfl, rfl⟩ | kernel_rfl) | with_reducible refine choT (by assumption) ?_ | with_reducible refine choF (by assumption) ?_ | with_reducible refine choF' (by assumption) ?_ | (with_reducible refine altT ?_ ?_; first | omega | (simp only [List.length_append, List.length_cons, List.length_nil, List.length_map, List.length_take, List.length_drop, List.length_replicate, List.length_set]; omega)) | with_reducible refine altF ?_ | with_reducible refine all fun _ => ?_ | with_reducible refine both ?_ ?_ | (with_reducible refine choT ?_ ?_; omega) | (with_reducible refine choF ?_ ?_; omega) | with_reducible refine cho (fun _ => ?_) (fun _ => ?_))
  rename_i r d
  refine loopI (β := Nat) (fun i => i ≤ 256) (fun i => [I .i64 bits, ptrAt r 0, ptrAt d 0, I .i64 (i : Nat)]) (fun i => [.var d 32 ((clrN bits (sha l) i).map byt), .var r 32 ((List.replicate 32 (0 : UInt8)).map byt)]) (fun i => 256 - i) 0 (Nat.zero_le _) (Sub.refl _ _) ?_
  intro i hi
  have hl2 : (clrN bits (sha l) i).length = 32 := (clrN_length bits (sha l) i).trans h32
  by_cases h3 : i < 256
  · have e8 : i % 8 % 18446744073709551616 = i % 8 := Nat.mod_eq_of_lt (by omega)
    by_cases hb : bits ≤ i
    · have hs : clrN bits (sha l) (i + 1) = (clrN bits (sha l) i).set (i / 8) ((clrN bits (sha l) i).getD (i / 8) default &&& ~~~((128 : UInt8) >>> UInt8.ofNat (i % 8))) := by rw [clrN, clrS, if_pos hb]
      repeat' (first | with_reducible apply Stp.go | with_reducible refine imp fun _ => ?_ | (with_reducible refine hyp ?_ ?_; first | assumption | exact leftT_mem (by assumption)) | (with_reducible refine need ?_ ?_; first | trivial | omega | exact ⟨by assumption, by omega⟩ | (simp only [List.length_append, List.length_cons, List.length_nil, List.length_map, List.length_take, List.length_drop, List.length_replicate, List.length_set]; omega)) | (with_reducible refine fact ?_ ?_; first | trivial | exact ⟨rfl, rfl⟩ | kernel_rfl) | with_reducible refine choT (by assumption) ?_ | with_reducible refine choF (by assumption) ?_ | with_reducible refine choF' (by assumption) ?_ | (with_reducible refine altT ?_ ?_; first | omega | (simp only [List.length_append, List.length_cons, List.length_nil, List.length_map, List.length_take, List.length_drop, List.length_replicate, List.length_set]; omega)) | with_reducible refine altF ?_ | with_reducible refine all fun _ => ?_ | with_reducible refine both ?_ ?_ | (with_reducible refine choT ?_ ?_; omega) | (with_reducible refine choF ?_ ?_; omega) | with_reducible refine cho (fun _ => ?_) (fun _ => ?_))
      refine again (i + 1) (by omega) (by omega) ?_
      rw [hs, e8]
      exact Sub.refl _ _
    · have hs : clrN bits (sha l) (i + 1) = clrN bits (sha l) i := by rw [clrN, clrS, if_neg hb]
      repeat' (first | with_reducible apply Stp.go | with_reducible refine imp fun _ => ?_ | (with_reducible refine hyp ?_ ?_; first | assumption | exact leftT_mem (by assumption)) | (with_reducible refine need ?_ ?_; first | trivial | omega | exact ⟨by assumption, by omega⟩ | (simp only [List.length_append, List.length_cons, List.length_nil, List.length_map, List.length_take, List.length_drop, List.length_replicate, List.length_set]; omega)) | (with_reducible refine fact ?_ ?_; first | trivial | exact ⟨rfl, rfl⟩ | kernel_rfl) | with_reducible refine choT (by assumption) ?_ | with_reducible refine choF (by assumption) ?_ | with_reducible refine choF' (by assumption) ?_ | (with_reducible refine altT ?_ ?_; first | omega | (simp only [List.length_append, List.length_cons, List.length_nil, List.length_map, List.length_take, List.length_drop, List.length_replicate, List.length_set]; omega)) | with_reducible refine altF ?_ | with_reducible refine all fun _ => ?_ | with_reducible refine both ?_ ?_ | (with_reducible refine choT ?_ ?_; omega) | (with_reducible refine choF ?_ ?_; omega) | with_reducible refine cho (fun _ => ?_) (fun _ => ?_))
      refine again (i + 1) (by omega) (by omega) ?_
      rw [hs]
      exact Sub.refl _ _
  · have e3 : i = 256 := by omega
    subst e3
    repeat' (first | with_reducible apply Stp.go | with_reducible refine imp fun _ => ?_ | (with_reducible refine hyp ?_ ?_; first | assumption | exact leftT_mem (by assumption)) | (with_reducible refine need ?_ ?_; first | trivial | omega | exact ⟨by assumption, by omega⟩ | (simp only [List.length_append, List.length_cons, List.length_nil, List.length_map, List.length_take, List.length_drop, List.length_replicate, List.length_set]; omega)) | (with_reducible refine fact ?_ ?_; first | trivial | exact ⟨rfl, rfl⟩ | kernel_rfl) | with_reducible refine choT (by assumption) ?_ | with_reducible refine choF (by assumption) ?_ | with_reducible refine choF' (by assumption) ?_ | (with_reducible refine altT ?_ ?_; first | omega | (simp only [List.length_append, List.length_cons, List.length_nil, List.length_map, List.length_take, List.length_drop, List.length_replicate, List.length_set]; omega)) | with_reducible refine altF ?_ | with_reducible refine all fun _ => ?_ | with_reducible refine both ?_ ?_ | (with_reducible refine choT ?_ ?_; omega) | (with_reducible refine choF ?_ ?_; omega) | with_reducible refine cho (fun _ => ?_) (fun _ => ?_))
    exact ⟨_, _, _, rfl, Sub.app_nil _, rfl, rfl⟩
instance {l : List UInt8} {b : Int} : PC Go.Proofs.Try.prog 70 [S l, I .i64 b] (l.length ≤ 100000000000000) (.agg ((kept l b).map byt)) := ⟨fun hl => PC.of (ref02_Kept_ok l b hl)⟩
end Go.Ab

/- The document's leaves, nodes and roots. -/
set_option linter.unusedVariables false
set_option linter.unusedSimpArgs false
namespace Go.Ab
instance (priority := 75) ldFD5 {l : List UInt8} {K : AV → Prop} [hl : Len32 l] : Stp (Do (loadF true 32 (.rptr (l.map byt))) K) (K (dgA l)) := ⟨fun hK => ⟨_, ⟨by decide, fun h => by (cases h), by simp [hl.len], by
  rw [List.take_of_length_le (by simp [hl.len])]; rfl⟩, hK⟩⟩
/-- A text as an element. -/
abbrev tx (b : List UInt8) : AV := S b
instance : Enc tx 1 := ⟨fun e => ⟨rfl, fun c hc => by
  have hc : c ∈ [tx e] := hc
  rw [List.mem_singleton.1 hc]; rfl⟩, by decide, fun _ => rfl⟩
instance (b : List UInt8) : Cells (tx b) [tx b] := ⟨rfl⟩
instance : ElemF [.val (.string ⟨#[]⟩)] (List UInt8) tx := ⟨trivial⟩
def ref05_LeafText.mark : Mark := ⟨fun t => false, fun t => false, fun t => false, fun t => false, fun t => false⟩
def ref05_LeafText.ann : Ann := ⟨fun n => [], fun n => none, fun n => none⟩
/-- 'marlstone/marlstoneref05.LeafText' -/
def ref05_LeafText.sh (a0 : AV) (σ : Store) (Q : AEnd → Store → Prop) : Prop :=
  Do (aBin Go.Proofs.Try.prog .add 9 (.val (.string ⟨#[0]⟩)) a0) fun t4 =>
  Q (.ret t4) σ
theorem ref05_LeafText.eq (a0 : AV) (σ : Store) (Q : AEnd → Store → Prop) : vc (semOf Go.Proofs.Try.prog ref05_LeafText.mark) Go.Proofs.Try.f87.ntmps ref05_LeafText.ann (bodyOf Go.Proofs.Try.f87) (endK [.tmp 2] Q) (argFr [a0]) σ = ref05_LeafText.sh a0 σ Q := by kernel_rfl
theorem ref05_LeafText.go {a0 : AV} {σ : Store} {Q : AEnd → Store → Prop} (h : ref05_LeafText.sh a0 σ Q) : ACalls Go.Proofs.Try.prog 87 [a0] σ Q :=
  acalls_of_eq [.tmp 2] Go.Proofs.Try.func87 (by kernel_rfl) (by kernel_rfl) (by kernel_rfl) (by kernel_rfl) (ref05_LeafText.eq a0 σ Q) h
def ref05_NodeText.mark : Mark := ⟨fun t => false, fun t => false, fun t => Nat.beq t 2 || Nat.beq t 3, fun t => false, fun t => false⟩
def ref05_NodeText.ann : Ann := ⟨fun n => [], fun n => none, fun n => none⟩
/-- 'marlstone/marlstoneref05.NodeText' -/
def ref05_NodeText.sh (a0 a1 : AV) (σ : Store) (Q : AEnd → Store → Prop) : Prop :=
  Do (aFreeze ((a0 : AV)).cells) fun t2 =>
  Do (aFreeze ((a1 : AV)).cells) fun t3 =>
  Do (aSlice (.array 32) 1 t2 none none none) fun t5 =>
  Do (aConvBS t5) fun t6 =>
  Do (aBin Go.Proofs.Try.prog .add 9 (.val (.string ⟨#[1]⟩)) t6) fun t7 =>
  Do (aSlice (.array 32) 1 t3 none none none) fun t8 =>
  Do (aConvBS t8) fun t9 =>
  Do (aBin Go.Proofs.Try.prog .add 9 t7 t9) fun t10 =>
  Q (.ret t10) σ
theorem ref05_NodeText.eq (a0 a1 : AV) (σ : Store) (Q : AEnd → Store → Prop) : vc (semOf Go.Proofs.Try.prog ref05_NodeText.mark) Go.Proofs.Try.f88.ntmps ref05_NodeText.ann (bodyOf Go.Proofs.Try.f88) (endK [.tmp 4] Q) (argFr [a0, a1]) σ = ref05_NodeText.sh a0 a1 σ Q := by kernel_rfl
theorem ref05_NodeText.go {a0 a1 : AV} {σ : Store} {Q : AEnd → Store → Prop} (h : ref05_NodeText.sh a0 a1 σ Q) : ACalls Go.Proofs.Try.prog 88 [a0, a1] σ Q :=
  acalls_of_eq [.tmp 4] Go.Proofs.Try.func88 (by kernel_rfl) (by kernel_rfl) (by kernel_rfl) (by kernel_rfl) (ref05_NodeText.eq a0 a1 σ Q) h
def ref05_Leaf.mark : Mark := ⟨fun t => Nat.beq t 6 || Nat.beq t 8, fun t => false, fun t => false, fun t => false, fun t => false⟩
def ref05_Leaf.ann : Ann := ⟨fun n => [], fun n => none, fun n => none⟩
/-- 'marlstone/marlstoneref05.Leaf' -/
def ref05_Leaf.sh (a0 a1 : AV) (σ : Store) (Q : AEnd → Store → Prop) : Prop :=
  aNewVar 32 [.val (.int .u8 0), .val (.int .u8 0), .val (.int .u8 0), .val (.int .u8 0), .val (.int .u8 0), .val (.int .u8 0), .val (.int .u8 0), .val (.int .u8 0), .val (.int .u8 0), .val (.int .u8 0), .val (.int .u8 0), .val (.int .u8 0), .val (.int .u8 0), .val (.int .u8 0), .val (.int .u8 0), .val (.int .u8 0), .val (.int .u8 0), .val (.int .u8 0), .val (.int .u8 0), .val (.int .u8 0), .val (.int .u8 0), .val (.int .u8 0), .val (.int .u8 0), .val (.int .u8 0), .val (.int .u8 0), .val (.int .u8 0), .val (.int .u8 0), .val (.int .u8 0), .val (.int .u8 0), .val (.int .u8 0), .val (.int .u8 0), .val (.int .u8 0)] σ fun t4 σ =>
  Do (aPureC Go.Proofs.Try.prog 87 [a1]) fun t6 =>
  Do (aPureC Go.Proofs.Try.prog 70 [t6, a0]) fun t8 =>
  storeA 32 t4 t8 σ fun u σ_1 =>
  Do (loadA true 32 t4 σ_1) fun r4 => Q (.ret r4) σ_1
theorem ref05_Leaf.eq (a0 a1 : AV) (σ : Store) (Q : AEnd → Store → Prop) : vc (semOf Go.Proofs.Try.prog ref05_Leaf.mark) Go.Proofs.Try.f71.ntmps ref05_Leaf.ann (bodyOf Go.Proofs.Try.f71) (endK [.cell 4 true 32] Q) (argFr [a0, a1]) σ = ref05_Leaf.sh a0 a1 σ Q := by kernel_rfl
theorem ref05_Leaf.go {a0 a1 : AV} {σ : Store} {Q : AEnd → Store → Prop} (h : ref05_Leaf.sh a0 a1 σ Q) : ACalls Go.Proofs.Try.prog 71 [a0, a1] σ Q :=
  acalls_of_eq [.cell 4 true 32] Go.Proofs.Try.func71 (by kernel_rfl) (by kernel_rfl) (by kernel_rfl) (by kernel_rfl) (ref05_Leaf.eq a0 a1 σ Q) h
def ref05_Node.mark : Mark := ⟨fun t => Nat.beq t 9 || Nat.beq t 11, fun t => false, fun t => Nat.beq t 4 || Nat.beq t 5, fun t => Nat.beq t 7 || Nat.beq t 8, fun t => false⟩
def ref05_Node.ann : Ann := ⟨fun n => [], fun n => none, fun n => none⟩
/-- 'marlstone/marlstoneref05.Node' -/
def ref05_Node.sh (a0 a1 a2 : AV) (σ : Store) (Q : AEnd → Store → Prop) : Prop :=
  Do (aFreeze ((a1 : AV)).cells) fun t4 =>
  Do (aFreeze ((a2 : AV)).cells) fun t5 =>
  aNewVar 32 [.val (.int .u8 0), .val (.int .u8 0), .val (.int .u8 0), .val (.int .u8 0), .val (.int .u8 0), .val (.int .u8 0), .val (.int .u8 0), .val (.int .u8 0), .val (.int .u8 0), .val (.int .u8 0), .val (.int .u8 0), .val (.int .u8 0), .val (.int .u8 0), .val (.int .u8 0), .val (.int .u8 0), .val (.int .u8 0), .val (.int .u8 0), .val (.int .u8 0), .val (.int .u8 0), .val (.int .u8 0), .val (.int .u8 0), .val (.int .u8 0), .val (.int .u8 0), .val (.int .u8 0), .val (.int .u8 0), .val (.int .u8 0), .val (.int .u8 0), .val (.int .u8 0), .val (.int .u8 0), .val (.int .u8 0), .val (.int .u8 0), .val (.int .u8 0)] σ fun t6 σ =>
  Do (loadF true 32 t4) fun t7 =>
  Do (loadF true 32 t5) fun t8 =>
  Do (aPureC Go.Proofs.Try.prog 88 [t7, t8]) fun t9 =>
  Do (aPureC Go.Proofs.Try.prog 70 [t9, a0]) fun t11 =>
  storeA 32 t6 t11 σ fun u σ_1 =>
  Do (loadA true 32 t6 σ_1) fun r6 => Q (.ret r6) σ_1
theorem ref05_Node.eq (a0 a1 a2 : AV) (σ : Store) (Q : AEnd → Store → Prop) : vc (semOf Go.Proofs.Try.prog ref05_Node.mark) Go.Proofs.Try.f73.ntmps ref05_Node.ann (bodyOf Go.Proofs.Try.f73) (endK [.cell 6 true 32] Q) (argFr [a0, a1, a2]) σ = ref05_Node.sh a0 a1 a2 σ Q := by kernel_rfl
theorem ref05_Node.go {a0 a1 a2 : AV} {σ : Store} {Q : AEnd → Store → Prop} (h : ref05_Node.sh a0 a1 a2 σ Q) : ACalls Go.Proofs.Try.prog 73 [a0, a1, a2] σ Q :=
  acalls_of_eq [.cell 6 true 32] Go.Proofs.Try.func73 (by kernel_rfl) (by kernel_rfl) (by kernel_rfl) (by kernel_rfl) (ref05_Node.eq a0 a1 a2 σ Q) h
def ref05_Half.mark : Mark := ⟨fun t => false, fun t => false, fun t => false, fun t => false, fun t => false⟩
def ref05_Half.ann : Ann := ⟨fun n => bif Nat.beq n 2 then [0, 3] else [], fun n => none, fun n => none⟩
/-- 'marlstone/marlstoneref05.Half' -/
def ref05_Half.sh (a0 : AV) (σ : Store) (Q : AEnd → Store → Prop) : Prop :=
  aLoop (fun go vs σ =>
    At vs 0 fun s0 => At vs 1 fun s3 => Do (aBin Go.Proofs.Try.prog .sub 3 s0 s3) fun t7 =>
    Do (aBin Go.Proofs.Try.prog .lss 3 s3 t7) fun t8 =>
    aCond t8
      (Do (aBin Go.Proofs.Try.prog .mul 3 s3 (.val (.int .i64 2))) fun t10 =>
    go [s0, t10] σ)
      (Q (.ret s3) σ))
    [a0, (.val (.int .i64 1))] σ
theorem ref05_Half.eq (a0 : AV) (σ : Store) (Q : AEnd → Store → Prop) : vc (semOf Go.Proofs.Try.prog ref05_Half.mark) Go.Proofs.Try.f72.ntmps ref05_Half.ann (bodyOf Go.Proofs.Try.f72) (endK [.tmp 2] Q) (argFr [a0]) σ = ref05_Half.sh a0 σ Q := by kernel_rfl
theorem ref05_Half.go {a0 : AV} {σ : Store} {Q : AEnd → Store → Prop} (h : ref05_Half.sh a0 σ Q) : ACalls Go.Proofs.Try.prog 72 [a0] σ Q :=
  acalls_of_eq [.tmp 2] Go.Proofs.Try.func72 (by kernel_rfl) (by kernel_rfl) (by kernel_rfl) (by kernel_rfl) (ref05_Half.eq a0 σ Q) h
def ref05_Root.mark : Mark := ⟨fun t => Nat.beq t 12 || Nat.beq t 20 || Nat.beq t 23 || Nat.beq t 28 || Nat.beq t 33 || Nat.beq t 37, fun t => false, fun t => false, fun t => Nat.beq t 19, fun t => false⟩
def ref05_Root.ann : Ann := ⟨fun n => [], fun n => none, fun n => none⟩
/-- 'marlstone/marlstoneref05.Root' -/
def ref05_Root.sh (a0 a1 : AV) (σ : Store) (Q : AEnd → Store → Prop) : Prop :=
  aNewVar 32 [.val (.int .u8 0), .val (.int .u8 0), .val (.int .u8 0), .val (.int .u8 0), .val (.int .u8 0), .val (.int .u8 0), .val (.int .u8 0), .val (.int .u8 0), .val (.int .u8 0), .val (.int .u8 0), .val (.int .u8 0), .val (.int .u8 0), .val (.int .u8 0), .val (.int .u8 0), .val (.int .u8 0), .val (.int .u8 0), .val (.int .u8 0), .val (.int .u8 0), .val (.int .u8 0), .val (.int .u8 0), .val (.int .u8 0), .val (.int .u8 0), .val (.int .u8 0), .val (.int .u8 0), .val (.int .u8 0), .val (.int .u8 0), .val (.int .u8 0), .val (.int .u8 0), .val (.int .u8 0), .val (.int .u8 0), .val (.int .u8 0), .val (.int .u8 0)] σ fun t4 σ =>
  Do (aBuiltin Go.Proofs.Try.prog .len #[42] [a1]) fun t9 =>
  Do (aBin Go.Proofs.Try.prog .eql 3 t9 (.val (.int .i64 0))) fun t10 =>
  aCond t10
    (Do (aPureC Go.Proofs.Try.prog 70 [(.val (.string ⟨#[]⟩)), a0]) fun t12 =>
    storeA 32 t4 t12 σ fun u σ_1 =>
    Do (loadA true 32 t4 σ_1) fun r4 => Q (.ret r4) σ_1)
    (Do (aBuiltin Go.Proofs.Try.prog .len #[42] [a1]) fun t14 =>
  Do (aBin Go.Proofs.Try.prog .eql 3 t14 (.val (.int .i64 1))) fun t15 =>
  aCond t15
    (Do (aIndexAddr .slice 1 a1 (.val (.int .i64 0))) fun t18 =>
    Do (loadF false 1 t18) fun t19 =>
    Do (aPureC Go.Proofs.Try.prog 71 [a0, t19]) fun t20 =>
    storeA 32 t4 t20 σ fun u_1 σ_2 =>
    Do (loadA true 32 t4 σ_2) fun r4_1 => Q (.ret r4_1) σ_2)
    (Do (aBuiltin Go.Proofs.Try.prog .len #[42] [a1]) fun t22 =>
  Do (aPureC Go.Proofs.Try.prog 72 [t22]) fun t23 =>
  Do (aSlice .slice 1 a1 none (some t23) none) fun t27 =>
  Do (aPureC Go.Proofs.Try.prog 40 [a0, t27]) fun t28 =>
  aNewVar 32 [.val (.int .u8 0), .val (.int .u8 0), .val (.int .u8 0), .val (.int .u8 0), .val (.int .u8 0), .val (.int .u8 0), .val (.int .u8 0), .val (.int .u8 0), .val (.int .u8 0), .val (.int .u8 0), .val (.int .u8 0), .val (.int .u8 0), .val (.int .u8 0), .val (.int .u8 0), .val (.int .u8 0), .val (.int .u8 0), .val (.int .u8 0), .val (.int .u8 0), .val (.int .u8 0), .val (.int .u8 0), .val (.int .u8 0), .val (.int .u8 0), .val (.int .u8 0), .val (.int .u8 0), .val (.int .u8 0), .val (.int .u8 0), .val (.int .u8 0), .val (.int .u8 0), .val (.int .u8 0), .val (.int .u8 0), .val (.int .u8 0), .val (.int .u8 0)] σ fun t6 σ_3 =>
  storeA 32 t6 t28 σ_3 fun u_2 σ_4 =>
  Do (aSlice .slice 1 a1 (some t23) none none) fun t32 =>
  Do (aPureC Go.Proofs.Try.prog 40 [a0, t32]) fun t33 =>
  aNewVar 32 [.val (.int .u8 0), .val (.int .u8 0), .val (.int .u8 0), .val (.int .u8 0), .val (.int .u8 0), .val (.int .u8 0), .val (.int .u8 0), .val (.int .u8 0), .val (.int .u8 0), .val (.int .u8 0), .val (.int .u8 0), .val (.int .u8 0), .val (.int .u8 0), .val (.int .u8 0), .val (.int .u8 0), .val (.int .u8 0), .val (.int .u8 0), .val (.int .u8 0), .val (.int .u8 0), .val (.int .u8 0), .val (.int .u8 0), .val (.int .u8 0), .val (.int .u8 0), .val (.int .u8 0), .val (.int .u8 0), .val (.int .u8 0), .val (.int .u8 0), .val (.int .u8 0), .val (.int .u8 0), .val (.int .u8 0), .val (.int .u8 0), .val (.int .u8 0)] σ_4 fun t7 σ_5 =>
  storeA 32 t7 t33 σ_5 fun u_3 σ_6 =>
  Do (loadA true 32 t6 σ_6) fun t35 =>
  Do (loadA true 32 t7 σ_6) fun t36 =>
  Do (aPureC Go.Proofs.Try.prog 73 [a0, t35, t36]) fun t37 =>
  storeA 32 t4 t37 σ_6 fun u_4 σ_7 =>
  Do (loadA true 32 t4 σ_7) fun r4_2 => Q (.ret r4_2) σ_7))
theorem ref05_Root.eq (a0 a1 : AV) (σ : Store) (Q : AEnd → Store → Prop) : vc (semOf Go.Proofs.Try.prog ref05_Root.mark) Go.Proofs.Try.f40.ntmps ref05_Root.ann (bodyOf Go.Proofs.Try.f40) (endK [.cell 4 true 32] Q) (argFr [a0, a1]) σ = ref05_Root.sh a0 a1 σ Q := by kernel_rfl
theorem ref05_Root.go {a0 a1 : AV} {σ : Store} {Q : AEnd → Store → Prop} (h : ref05_Root.sh a0 a1 σ Q) : ACalls Go.Proofs.Try.prog 40 [a0, a1] σ Q :=
  acalls_of_eq [.cell 4 true 32] Go.Proofs.Try.func40 (by kernel_rfl) (by kernel_rfl) (by kernel_rfl) (by kernel_rfl) (ref05_Root.eq a0 a1 σ Q) h
theorem ref05_LeafText_ok (l : List UInt8) (hl : l.length ≤ 10000000000000) : aPure Go.Proofs.Try.prog 87 [S l] (S ([0] ++ l)) := by
  refine ref05_LeafText.go ?_
  unfold ref05_LeafText.sh
  repeat' (first | with_reducible apply Stp.go | with_reducible refine imp fun _ => ?_ | (with_reducible refine hyp ?_ ?_; first | assumption | exact leftT_mem (by assumption)) | (with_reducible refine need ?_ ?_; first | trivial | omega | exact ⟨by assumption, by omega⟩ | (simp only [List.length_append, List.length_cons, List.length_nil, List.length_map, List.length_take, List.length_drop, List.length_replicate, List.length_set]; omega)) | (with_reducible refine fact ?_ ?_; first | trivial | exact ⟨rfl, rfl⟩ | kernel_rfl) | with_reducible refine choT (by assumption) ?_ | with_reducible refine choF (by assumption) ?_ | with_reducible refine choF' (by assumption) ?_ | (with_reducible refine altT ?_ ?_; first | omega | (simp only [List.length_append, List.length_cons, List.length_nil, List.length_map, List.length_take, List.length_drop, List.length_replicate, List.length_set]; omega)) | with_reducible refine altF ?_ | with_reducible refine all fun _ => ?_ | with_reducible refine both ?_ ?_ | (with_reducible refine choT ?_ ?_; omega) | (with_reducible refine choF ?_ ?_; omega) | with_reducible refine cho (fun _ => ?_) (fun _ => ?_))
  exact ⟨rfl, rfl⟩
instance {l : List UInt8} : PC Go.Proofs.Try.prog 87 [S l] (l.length ≤ 10000000000000) (S ([0] ++ l)) := ⟨fun hl => PC.of (ref05_LeafText_ok l hl)⟩
theorem ref05_NodeText_ok (l r : List UInt8) [hl : Len32 l] [hr : Len32 r] : aPure Go.Proofs.Try.prog 88 [dgA l, dgA r] (S ([1] ++ l ++ r)) := by
  refine ACalls.fin (ref05_NodeText.go ?_)
  unfold ref05_NodeText.sh
  have h1 := hl.len
  have h2 := hr.len
  have m1 : 32 = l.length ∧ 32 ≤ maxLen := ⟨h1.symm, by decide⟩
  have m2 : 32 = r.length ∧ 32 ≤ maxLen := ⟨h2.symm, by decide⟩
  repeat' (first | with_reducible apply Stp.go | with_reducible refine imp fun _ => ?_ | (with_reducible refine hyp ?_ ?_; first | assumption | exact leftT_mem (by assumption)) | (with_reducible refine need ?_ ?_; first | trivial | omega | exact ⟨by assumption, by omega⟩ | (simp only [List.length_append, List.length_cons, List.length_nil, List.length_map, List.length_take, List.length_drop, List.length_replicate, List.length_set]; omega)) | (with_reducible refine fact ?_ ?_; first | trivial | exact ⟨rfl, rfl⟩ | kernel_rfl) | with_reducible refine choT (by assumption) ?_ | with_reducible refine choF (by assumption) ?_ | with_reducible refine choF' (by assumption) ?_ | (with_reducible refine altT ?_ ?_; first | omega | (simp only [List.length_append, List.length_cons, List.length_nil, List.length_map, List.length_take, List.length_drop, List.length_replicate, List.length_set]; omega)) | with_reducible refine altF ?_ | with_reducible refine all fun _ => ?_ | with_reducible refine both ?_ ?_ | (with_reducible refine choT ?_ ?_; omega) | (with_reducible refine choF ?_ ?_; omega) | with_reducible refine cho (fun _ => ?_) (fun _ => ?_))
  exact ⟨_, _, _, rfl, Sub.app_nil _, rfl, rfl⟩
instance {l r : List UInt8} [hl : Len32 l] [hr : Len32 r] : PC Go.Proofs.Try.prog 88 [dgA l, dgA r] True (S ([1] ++ l ++ r)) := ⟨fun _ => PC.of (ref05_NodeText_ok l r)⟩
theorem ref05_Leaf_ok (b : Int) (l : List UInt8) (hl : l.length ≤ 10000000000000) : aPure Go.Proofs.Try.prog 71 [I .i64 b, S l] (dgA (leafD b l)) := by
  refine ACalls.fin (ref05_Leaf.go ?_)
  unfold ref05_Leaf.sh
  have h32 := kept_length ([0] ++ l) b
  repeat' (first | with_reducible apply Stp.go | with_reducible refine imp fun _ => ?_ | (with_reducible refine hyp ?_ ?_; first | assumption | exact leftT_mem (by assumption)) | (with_reducible refine need ?_ ?_; first | trivial | omega | exact ⟨by assumption, by omega⟩ | (simp only [List.length_append, List.length_cons, List.length_nil, List.length_map, List.length_take, List.length_drop, List.length_replicate, List.length_set]; omega)) | (with_reducible refine fact ?_ ?_; first | trivial | exact ⟨rfl, rfl⟩ | kernel_rfl) | with_reducible refine choT (by assumption) ?_ | with_reducible refine choF (by assumption) ?_ | with_reducible refine choF' (by assumption) ?_ | (with_reducible refine altT ?_ ?_; first | omega | (simp only [List.length_append, List.length_cons, List.length_nil, List.length_map, List.length_take, List.length_drop, List.length_replicate, List.length_set]; omega)) | with_reducible refine altF ?_ | with_reducible refine all fun _ => ?_ | with_reducible refine both ?_ ?_ | (with_reducible refine choT ?_ ?_; omega) | (with_reducible refine choF ?_ ?_; omega) | with_reducible refine cho (fun _ => ?_) (fun _ => ?_))
  exact ⟨_, _, _, rfl, Sub.app_nil _, rfl, rfl⟩
instance {b : Int} {l : List UInt8} : PC Go.Proofs.Try.prog 71 [I .i64 b, S l] (l.length ≤ 10000000000000) (dgA (leafD b l)) := ⟨fun hl => PC.of (ref05_Leaf_ok b l hl)⟩
theorem ref05_Node_ok (b : Int) (l r : List UInt8) [hl : Len32 l] [hr : Len32 r] : aPure Go.Proofs.Try.prog 73 [I .i64 b, dgA l, dgA r] (dgA (nodeD b l r)) := by
  refine ACalls.fin (ref05_Node.go ?_)
  unfold ref05_Node.sh
  have h1 := hl.len
  have h2 := hr.len
  have h32 := kept_length ([1] ++ l ++ r) b
  repeat' (first | with_reducible apply Stp.go | with_reducible refine imp fun _ => ?_ | (with_reducible refine hyp ?_ ?_; first | assumption | exact leftT_mem (by assumption)) | (with_reducible refine need ?_ ?_; first | trivial | omega | exact ⟨by assumption, by omega⟩ | (simp only [List.length_append, List.length_cons, List.length_nil, List.length_map, List.length_take, List.length_drop, List.length_replicate, List.length_set]; omega)) | (with_reducible refine fact ?_ ?_; first | trivial | exact ⟨rfl, rfl⟩ | kernel_rfl) | with_reducible refine choT (by assumption) ?_ | with_reducible refine choF (by assumption) ?_ | with_reducible refine choF' (by assumption) ?_ | (with_reducible refine altT ?_ ?_; first | omega | (simp only [List.length_append, List.length_cons, List.length_nil, List.length_map, List.length_take, List.length_drop, List.length_replicate, List.length_set]; omega)) | with_reducible refine altF ?_ | with_reducible refine all fun _ => ?_ | with_reducible refine both ?_ ?_ | (with_reducible refine choT ?_ ?_; omega) | (with_reducible refine choF ?_ ?_; omega) | with_reducible refine cho (fun _ => ?_) (fun _ => ?_))
  exact ⟨_, _, _, rfl, Sub.app_nil _, rfl, rfl⟩
instance {l r : List UInt8} {b : Int} [hl : Len32 l] [hr : Len32 r] : PC Go.Proofs.Try.prog 73 [I .i64 b, dgA l, dgA r] True (dgA (nodeD b l r)) := ⟨fun _ => PC.of (ref05_Node_ok b l r)⟩
theorem ref05_Half_ok (n : Nat) (hn : n ≤ 9223372036854775807) : aPure Go.Proofs.Try.prog 72 [I .i64 (n : Nat)] (I .i64 (halfN n : Nat)) := by
  refine ref05_Half.go ?_
  unfold ref05_Half.sh
  repeat' (first | with_reducible apply Stp.go | with_reducible refine imp fun _ => ?_ | (with_reducible refine hyp ?_ ?_; first | assumption | exact leftT_mem (by assumption)) | (with_reducible refine need ?_ ?_; first | trivial | omega | exact ⟨by assumption, by omega⟩ | (simp only [List.length_append, List.length_cons, List.length_nil, List.length_map, List.length_take, List.length_drop, List.length_replicate, List.length_set]; omega)) | (with_reducible refine fact ?_ ?_; first | trivial | exact ⟨rfl, rfl⟩ | kernel_rfl) | with_reducible refine choT (by assumption) ?_ | with_reducible refine choF (by assumption) ?_ | with_reducible refine choF' (by assumption) ?_ | (with_reducible refine altT ?_ ?_; first | omega | (simp only [List.length_append, List.length_cons, List.length_nil, List.length_map, List.length_take, List.length_drop, List.length_replicate, List.length_set]; omega)) | with_reducible refine altF ?_ | with_reducible refine all fun _ => ?_ | with_reducible refine both ?_ ?_ | (with_reducible refine choT ?_ ?_; omega) | (with_reducible refine choF ?_ ?_; omega) | with_reducible refine cho (fun _ => ?_) (fun _ => ?_))
  refine loopI (β := Nat) (fun k => 0 < k ∧ (k = 1 ∨ k ≤ n) ∧ halfGo n k = halfN n) (fun k => [I .i64 (n : Nat), I .i64 (k : Nat)]) (fun _ => []) (fun k => n - k) 1 ⟨by omega, by omega, rfl⟩ (Sub.refl _ _) ?_
  rintro k ⟨h1, h2, h3⟩
  dsimp only at h1 h2 h3 ⊢
  repeat' (first | with_reducible apply Stp.go | with_reducible refine imp fun _ => ?_ | (with_reducible refine hyp ?_ ?_; first | assumption | exact leftT_mem (by assumption)) | (with_reducible refine need ?_ ?_; first | trivial | omega | exact ⟨by assumption, by omega⟩ | (simp only [List.length_append, List.length_cons, List.length_nil, List.length_map, List.length_take, List.length_drop, List.length_replicate, List.length_set]; omega)) | (with_reducible refine fact ?_ ?_; first | trivial | exact ⟨rfl, rfl⟩ | kernel_rfl) | with_reducible refine choT (by assumption) ?_ | with_reducible refine choF (by assumption) ?_ | with_reducible refine choF' (by assumption) ?_ | (with_reducible refine altT ?_ ?_; first | omega | (simp only [List.length_append, List.length_cons, List.length_nil, List.length_map, List.length_take, List.length_drop, List.length_replicate, List.length_set]; omega)) | with_reducible refine altF ?_ | with_reducible refine all fun _ => ?_ | with_reducible refine both ?_ ?_ | (with_reducible refine choT ?_ ?_; omega) | (with_reducible refine choF ?_ ?_; omega) | with_reducible refine cho (fun _ => ?_) (fun _ => ?_))
  · rename_i h4
    have e : halfGo n k = halfGo n (k * 2) := by
      conv => lhs; unfold halfGo
      rw [dif_pos ⟨h1, by omega⟩]
    exact again (k * 2) (by omega) ⟨by omega, by omega, e.symm.trans h3⟩ (Sub.refl _ _)
  · rename_i h4
    have e : halfGo n k = k := by
      unfold halfGo
      rw [dif_neg (by omega)]
    rw [← h3, e]
    exact ⟨rfl, rfl⟩
instance {n : Nat} : PC Go.Proofs.Try.prog 72 [I .i64 (n : Nat)] (n ≤ 9223372036854775807) (I .i64 (halfN n : Nat)) := ⟨fun hl => PC.of (ref05_Half_ok n hl)⟩
theorem ref05_Root_ok (bits : Int) : ∀ (n : Nat) (L : List (List UInt8)) (m : SM), L.length = n → L.length ≤ 1000000 → (∀ b ∈ L, b.length ≤ 10000000000000) → aPure Go.Proofs.Try.prog 40 [I .i64 bits, .lst 1 (L.map tx) m] (dgA (rootD bits L)) := by
  intro n
  induction n using Nat.strongRecOn with
  | _ n ih =>
    intro L m hn hL hb
    refine ACalls.fin (ref05_Root.go ?_)
    unfold ref05_Root.sh
    have inst : ∀ (L' : List (List UInt8)) (m' : SM), PC Go.Proofs.Try.prog 40 [I .i64 bits, .lst 1 (L'.map tx) m'] (L'.length < n ∧ L'.length ≤ 1000000 ∧ ∀ b ∈ L', b.length ≤ 10000000000000) (dgA (rootD bits L')) := fun L' m' => ⟨fun h => PC.of (ih L'.length h.1 L' m' rfl h.2.1 h.2.2)⟩
    have h32 := rootD_len bits L
    have k32 := kept_length [] bits
    by_cases h0 : L.length = 0
    · have e : rootD bits L = kept [] bits := by unfold rootD; rw [dif_pos h0]
      rw [e] at h32 ⊢
      repeat' (first | with_reducible apply Stp.go | with_reducible refine imp fun _ => ?_ | (with_reducible refine hyp ?_ ?_; first | assumption | exact leftT_mem (by assumption)) | (with_reducible refine need ?_ ?_; first | trivial | omega | exact ⟨by assumption, by omega⟩ | (simp only [List.length_append, List.length_cons, List.length_nil, List.length_map, List.length_take, List.length_drop, List.length_replicate, List.length_set]; omega)) | (with_reducible refine fact ?_ ?_; first | trivial | exact ⟨rfl, rfl⟩ | kernel_rfl) | with_reducible refine choT (by assumption) ?_ | with_reducible refine choF (by assumption) ?_ | with_reducible refine choF' (by assumption) ?_ | (with_reducible refine altT ?_ ?_; first | omega | (simp only [List.length_append, List.length_cons, List.length_nil, List.length_map, List.length_take, List.length_drop, List.length_replicate, List.length_set]; omega)) | with_reducible refine altF ?_ | with_reducible refine all fun _ => ?_ | with_reducible refine both ?_ ?_ | (with_reducible refine choT ?_ ?_; omega) | (with_reducible refine choF ?_ ?_; omega) | with_reducible refine cho (fun _ => ?_) (fun _ => ?_))
      exact ⟨_, _, _, rfl, Sub.app_nil _, rfl, rfl⟩
    · by_cases h1 : L.length = 1
      · have e : rootD bits L = leafD bits (L.getD 0 default) := by unfold rootD; rw [dif_neg h0, dif_pos h1]
        have hb0 : (L.getD 0 default).length ≤ 10000000000000 := hb _ (by rw [List.getD_eq_getElem?_getD, List.getElem?_eq_getElem (by omega)]; exact List.getElem_mem _)
        rw [e] at h32 ⊢
        repeat' (first | with_reducible apply Stp.go | with_reducible refine imp fun _ => ?_ | (with_reducible refine hyp ?_ ?_; first | assumption | exact leftT_mem (by assumption)) | (with_reducible refine need ?_ ?_; first | trivial | omega | exact ⟨by assumption, by omega⟩ | (simp only [List.length_append, List.length_cons, List.length_nil, List.length_map, List.length_take, List.length_drop, List.length_replicate, List.length_set]; omega)) | (with_reducible refine fact ?_ ?_; first | trivial | exact ⟨rfl, rfl⟩ | kernel_rfl) | with_reducible refine choT (by assumption) ?_ | with_reducible refine choF (by assumption) ?_ | with_reducible refine choF' (by assumption) ?_ | (with_reducible refine altT ?_ ?_; first | omega | (simp only [List.length_append, List.length_cons, List.length_nil, List.length_map, List.length_take, List.length_drop, List.length_replicate, List.length_set]; omega)) | with_reducible refine altF ?_ | with_reducible refine all fun _ => ?_ | with_reducible refine both ?_ ?_ | (with_reducible refine choT ?_ ?_; omega) | (with_reducible refine choF ?_ ?_; omega) | with_reducible refine cho (fun _ => ?_) (fun _ => ?_))
        exact ⟨_, _, _, rfl, Sub.app_nil _, rfl, rfl⟩
      · have hh := halfN_lt (n := L.length) (by omega)
        have e : rootD bits L = nodeD bits (rootD bits (L.take (halfN L.length))) (rootD bits (L.drop (halfN L.length))) := by
          conv => lhs; unfold rootD
          rw [dif_neg h0, dif_neg h1]
        have t32 := rootD_len bits (L.take (halfN L.length))
        have d32 := rootD_len bits (L.drop (halfN L.length))
        have p1 : (L.take (halfN L.length)).length < n ∧ (L.take (halfN L.length)).length ≤ 1000000 ∧ ∀ b ∈ L.take (halfN L.length), b.length ≤ 10000000000000 := ⟨by simp; omega, by simp; omega, fun b h => hb b (List.mem_of_mem_take h)⟩
        have p2 : (L.drop (halfN L.length)).length < n ∧ (L.drop (halfN L.length)).length ≤ 1000000 ∧ ∀ b ∈ L.drop (halfN L.length), b.length ≤ 10000000000000 := ⟨by simp; omega, by simp; omega, fun b h => hb b (List.mem_of_mem_drop h)⟩
        rw [e] at h32 ⊢
        repeat' (first | with_reducible apply Stp.go | with_reducible refine imp fun _ => ?_ | (with_reducible refine hyp ?_ ?_; first | assumption | exact leftT_mem (by assumption)) | (with_reducible refine need ?_ ?_; first | trivial | omega | exact ⟨by assumption, by omega⟩ | (simp only [List.length_append, List.length_cons, List.length_nil, List.length_map, List.length_take, List.length_drop, List.length_replicate, List.length_set]; omega)) | (with_reducible refine fact ?_ ?_; first | trivial | exact ⟨rfl, rfl⟩ | kernel_rfl) | with_reducible refine choT (by assumption) ?_ | with_reducible refine choF (by assumption) ?_ | with_reducible refine choF' (by assumption) ?_ | (with_reducible refine altT ?_ ?_; first | omega | (simp only [List.length_append, List.length_cons, List.length_nil, List.length_map, List.length_take, List.length_drop, List.length_replicate, List.length_set]; omega)) | with_reducible refine altF ?_ | with_reducible refine all fun _ => ?_ | with_reducible refine both ?_ ?_ | (with_reducible refine choT ?_ ?_; omega) | (with_reducible refine choF ?_ ?_; omega) | with_reducible refine cho (fun _ => ?_) (fun _ => ?_))
        exact ⟨_, _, _, rfl, Sub.app_nil _, rfl, rfl⟩
instance {a : AV} {L : List (List UInt8)} {m : SM} {b : Int} [h : IsL a tx 1 L m] : PC Go.Proofs.Try.prog 40 [I .i64 b, a] (L.length ≤ 1000000 ∧ ∀ b ∈ L, b.length ≤ 10000000000000) (dgA (rootD b L)) := ⟨fun hl => ⟨[I .i64 b, .lst 1 (L.map tx) m], ⟨SubV.refl _, h.sub, trivial⟩, ref05_Root_ok b _ L m rfl hl.1 hl.2⟩⟩
end Go.Ab

/- ref11.Leaves, ref11.Describe. -/
set_option linter.unusedVariables false
set_option linter.unusedSimpArgs false
namespace Go.Ab
def ref11_Leaves.mark : Mark := ⟨fun t => Nat.beq t 16, fun t => false, fun t => false, fun t => Nat.beq t 15, fun t => false⟩
def ref11_Leaves.ann : Ann := ⟨fun n => bif Nat.beq n 3 then [0, 3, 4] else [], fun n => none, fun n => none⟩
/-- 'marlstone/marlstoneref11.Leaves' -/
def ref11_Leaves.sh (a0 : AV) (σ : Store) (Q : AEnd → Store → Prop) : Prop :=
  aLoop (fun go vs σ =>
    At vs 0 fun s0 => At vs 1 fun s3 => At vs 2 fun s4 => Do (aBuiltin Go.Proofs.Try.prog .len #[22] [s0]) fun t7 =>
    Do (aBin Go.Proofs.Try.prog .lss 3 s4 t7) fun t8 =>
    aCond t8
      (Do (aIndexAddr .slice 4 s0 s4) fun t14 =>
    Do (loadF true 4 t14) fun t15 =>
    Do (aPureC Go.Proofs.Try.prog 42 [t15]) fun t16 =>
    Do (aSlLit (mkE [.val (.string ⟨#[]⟩)]) 1 1 [(0, t16)]) fun t17 =>
    aAppend 9 1 16 s3 t17 σ (subK fun t18 σ_1 =>
    Do (aBin Go.Proofs.Try.prog .add 3 s4 (.val (.int .i64 1))) fun t10 =>
    go [s0, t18, t10] σ_1))
      (Q (.ret s3) σ))
    [a0, (.val (.slice none 0 0)), (.val (.int .i64 0))] σ
theorem ref11_Leaves.eq (a0 : AV) (σ : Store) (Q : AEnd → Store → Prop) : vc (semOf Go.Proofs.Try.prog ref11_Leaves.mark) Go.Proofs.Try.f18.ntmps ref11_Leaves.ann (bodyOf Go.Proofs.Try.f18) (endK [.tmp 2] Q) (argFr [a0]) σ = ref11_Leaves.sh a0 σ Q := by kernel_rfl
theorem ref11_Leaves.go {a0 : AV} {σ : Store} {Q : AEnd → Store → Prop} (h : ref11_Leaves.sh a0 σ Q) : ACalls Go.Proofs.Try.prog 18 [a0] σ Q :=
  acalls_of_eq [.tmp 2] Go.Proofs.Try.func18 (by kernel_rfl) (by kernel_rfl) (by kernel_rfl) (by kernel_rfl) (ref11_Leaves.eq a0 σ Q) h
def ref11_Describe.mark : Mark := ⟨fun t => Nat.beq t 10 || Nat.beq t 27 || Nat.beq t 28, fun t => false, fun t => false, fun t => Nat.beq t 32 || Nat.beq t 39, fun t => false⟩
def ref11_Describe.ann : Ann := ⟨fun n => [], fun n => none, fun n => none⟩
/-- 'marlstone/marlstoneref11.Describe' -/
def ref11_Describe.sh (a0 a1 a2 : AV) (σ : Store) (Q : AEnd → Store → Prop) : Prop :=
  aNewVar 34 [.val (.int .i64 0), .val (.int .i64 0), .val (.int .u8 0), .val (.int .u8 0), .val (.int .u8 0), .val (.int .u8 0), .val (.int .u8 0), .val (.int .u8 0), .val (.int .u8 0), .val (.int .u8 0), .val (.int .u8 0), .val (.int .u8 0), .val (.int .u8 0), .val (.int .u8 0), .val (.int .u8 0), .val (.int .u8 0), .val (.int .u8 0), .val (.int .u8 0), .val (.int .u8 0), .val (.int .u8 0), .val (.int .u8 0), .val (.int .u8 0), .val (.int .u8 0), .val (.int .u8 0), .val (.int .u8 0), .val (.int .u8 0), .val (.int .u8 0), .val (.int .u8 0), .val (.int .u8 0), .val (.int .u8 0), .val (.int .u8 0), .val (.int .u8 0), .val (.int .u8 0), .val (.int .u8 0), .val (.string ⟨#[]⟩), .val (.string ⟨#[]⟩)] σ fun t6 σ =>
  Do (aPureC Go.Proofs.Try.prog 35 [a2]) fun t10 =>
  Do (aUn Go.Proofs.Try.prog .not t10) fun t12 =>
  Do (aGuard t12 false (aIs a1)) fun t14 =>
  Do (aGuard t12 false (aBin Go.Proofs.Try.prog .lss 3 t14 (.val (.int .i64 0)))) fun t15 =>
  Do (aPick t12 (.val (.bool true)) t15) fun t16 =>
  Do (aGuard t16 false (aIs a1)) fun t18 =>
  Do (aGuard t16 false (aBin Go.Proofs.Try.prog .geq 3 t18 (.val (.int .i64 4)))) fun t19 =>
  Do (aPick t16 (.val (.bool true)) t19) fun t20 =>
  aCond t20
    (Do (aLit [.val (.int .i64 0), .val (.int .i64 0), .val (.int .u8 0), .val (.int .u8 0), .val (.int .u8 0), .val (.int .u8 0), .val (.int .u8 0), .val (.int .u8 0), .val (.int .u8 0), .val (.int .u8 0), .val (.int .u8 0), .val (.int .u8 0), .val (.int .u8 0), .val (.int .u8 0), .val (.int .u8 0), .val (.int .u8 0), .val (.int .u8 0), .val (.int .u8 0), .val (.int .u8 0), .val (.int .u8 0), .val (.int .u8 0), .val (.int .u8 0), .val (.int .u8 0), .val (.int .u8 0), .val (.int .u8 0), .val (.int .u8 0), .val (.int .u8 0), .val (.int .u8 0), .val (.int .u8 0), .val (.int .u8 0), .val (.int .u8 0), .val (.int .u8 0), .val (.int .u8 0), .val (.int .u8 0), .val (.string ⟨#[]⟩), .val (.string ⟨#[]⟩)] [(0, 1), (1, 1), (2, 32), (34, 1), (35, 1)] []) fun t21 =>
    storeA 36 t6 t21 σ fun u σ_1 =>
    Do (loadA true 36 t6 σ_1) fun r6 => Q (.ret (.tuple [r6, (.val (.int .i64 1))])) σ_1)
    (Do (aBuiltin Go.Proofs.Try.prog .len #[22] [a2]) fun t24 =>
  Do (aPureC Go.Proofs.Try.prog 18 [a2]) fun t27 =>
  Do (aPureC Go.Proofs.Try.prog 40 [a0, t27]) fun t28 =>
  Do (aIndexAddr .slice 4 a2 (.val (.int .i64 0))) fun t30 =>
  Do (aFieldAddr 0 1 t30) fun t31 =>
  Do (loadF false 1 t31) fun t32 =>
  Do (aBuiltin Go.Proofs.Try.prog .len #[22] [a2]) fun t35 =>
  Do (aBin Go.Proofs.Try.prog .sub 3 t35 (.val (.int .i64 1))) fun t36 =>
  Do (aIndexAddr .slice 4 a2 t36) fun t37 =>
  Do (aFieldAddr 0 1 t37) fun t38 =>
  Do (loadF false 1 t38) fun t39 =>
  Do (aLit [.val (.int .i64 0), .val (.int .i64 0), .val (.int .u8 0), .val (.int .u8 0), .val (.int .u8 0), .val (.int .u8 0), .val (.int .u8 0), .val (.int .u8 0), .val (.int .u8 0), .val (.int .u8 0), .val (.int .u8 0), .val (.int .u8 0), .val (.int .u8 0), .val (.int .u8 0), .val (.int .u8 0), .val (.int .u8 0), .val (.int .u8 0), .val (.int .u8 0), .val (.int .u8 0), .val (.int .u8 0), .val (.int .u8 0), .val (.int .u8 0), .val (.int .u8 0), .val (.int .u8 0), .val (.int .u8 0), .val (.int .u8 0), .val (.int .u8 0), .val (.int .u8 0), .val (.int .u8 0), .val (.int .u8 0), .val (.int .u8 0), .val (.int .u8 0), .val (.int .u8 0), .val (.int .u8 0), .val (.string ⟨#[]⟩), .val (.string ⟨#[]⟩)] [(0, 1), (1, 1), (2, 32), (34, 1), (35, 1)] [(0, a1), (1, t24), (2, t28), (3, t32), (4, t39)]) fun t40 =>
  storeA 36 t6 t40 σ fun u_1 σ_2 =>
  Do (loadA true 36 t6 σ_2) fun r6_1 => Q (.ret (.tuple [r6_1, (.val (.int .i64 0))])) σ_2)
theorem ref11_Describe.eq (a0 a1 a2 : AV) (σ : Store) (Q : AEnd → Store → Prop) : vc (semOf Go.Proofs.Try.prog ref11_Describe.mark) Go.Proofs.Try.f16.ntmps ref11_Describe.ann (bodyOf Go.Proofs.Try.f16) (endK [.cell 6 true 36, .tmp 7] Q) (argFr [a0, a1, a2]) σ = ref11_Describe.sh a0 a1 a2 σ Q := by kernel_rfl
theorem ref11_Describe.go {a0 a1 a2 : AV} {σ : Store} {Q : AEnd → Store → Prop} (h : ref11_Describe.sh a0 a1 a2 σ Q) : ACalls Go.Proofs.Try.prog 16 [a0, a1, a2] σ Q :=
  acalls_of_eq [.cell 6 true 36, .tmp 7] Go.Proofs.Try.func16 (by kernel_rfl) (by kernel_rfl) (by kernel_rfl) (by kernel_rfl) (ref11_Describe.eq a0 a1 a2 σ Q) h
theorem ref11_Leaves_ok (l : List En) (m : SM) (hl : l.length ≤ 1000000) : aPure Go.Proofs.Try.prog 18 [.lst 4 (l.map En.av) m] (.lst 1 ((l.map enB).map tx) .ro) := by
  refine ACalls.fin (ref11_Leaves.go ?_)
  unfold ref11_Leaves.sh
  repeat' (first | with_reducible apply Stp.go | with_reducible refine imp fun _ => ?_ | (with_reducible refine hyp ?_ ?_; first | assumption | exact leftT_mem (by assumption)) | (with_reducible refine need ?_ ?_; first | trivial | omega | exact ⟨by assumption, by omega⟩ | (simp only [List.length_append, List.length_cons, List.length_nil, List.length_map, List.length_take, List.length_drop, List.length_replicate, List.length_set]; omega)) | (with_reducible refine fact ?_ ?_; first | trivial | exact ⟨rfl, rfl⟩ | kernel_rfl) | with_reducible refine choT (by assumption) ?_ | with_reducible refine choF (by assumption) ?_ | with_reducible refine choF' (by assumption) ?_ | (with_reducible refine altT ?_ ?_; first | omega | (simp only [List.length_append, List.length_cons, List.length_nil, List.length_map, List.length_take, List.length_drop, List.length_replicate, List.length_set]; omega)) | with_reducible refine altF ?_ | with_reducible refine all fun _ => ?_ | with_reducible refine both ?_ ?_ | (with_reducible refine choT ?_ ?_; omega) | (with_reducible refine choF ?_ ?_; omega) | with_reducible refine cho (fun _ => ?_) (fun _ => ?_))
  refine loopI (β := Nat × Value) (fun x => x.1 ≤ l.length) (fun x => [.lst 4 (l.map En.av) m, .own x.2 ((l.take x.1).map enB).length, I .i64 (x.1 : Nat)]) (fun x => [.row x.2 9 1 (((l.take x.1).map enB).map tx) 0]) (fun x => l.length - x.1) (0, .slice none 0 0) (Nat.zero_le _) (Sub.nil_own 9 (sz := 1) (by decide) [] [.lst 4 (l.map En.av) m] [I .i64 ((0 : Nat) : Int)]) ?_
  rintro ⟨i, v⟩ h1
  dsimp only at h1 ⊢
  by_cases hi : i < l.length
  · have hk : ((l.take i).map enB).length ≤ l.length := by simp; omega
    have e : (l.take (i + 1)).map enB = (l.take i).map enB ++ [enB (l.getD i default)] := by rw [take_succ_d (by omega), List.map_append]; rfl
    repeat' (first | with_reducible apply Stp.go | with_reducible refine imp fun _ => ?_ | (with_reducible refine hyp ?_ ?_; first | assumption | exact leftT_mem (by assumption)) | (with_reducible refine need ?_ ?_; first | trivial | omega | exact ⟨by assumption, by omega⟩ | (simp only [List.length_append, List.length_cons, List.length_nil, List.length_map, List.length_take, List.length_drop, List.length_replicate, List.length_set]; omega)) | (with_reducible refine fact ?_ ?_; first | trivial | exact ⟨rfl, rfl⟩ | kernel_rfl) | with_reducible refine choT (by assumption) ?_ | with_reducible refine choF (by assumption) ?_ | with_reducible refine choF' (by assumption) ?_ | (with_reducible refine altT ?_ ?_; first | omega | (simp only [List.length_append, List.length_cons, List.length_nil, List.length_map, List.length_take, List.length_drop, List.length_replicate, List.length_set]; omega)) | with_reducible refine altF ?_ | with_reducible refine all fun _ => ?_ | with_reducible refine both ?_ ?_ | (with_reducible refine choT ?_ ?_; omega) | (with_reducible refine choF ?_ ?_; omega) | with_reducible refine cho (fun _ => ?_) (fun _ => ?_))
    rename_i w
    refine again (i + 1, w) (by dsimp only; omega) (by dsimp only; omega) ?_
    dsimp only
    rw [e]
    exact Sub.refl _ _
  · have e1 : i = l.length := by omega
    subst e1
    rw [List.take_length]
    repeat' (first | with_reducible apply Stp.go | with_reducible refine imp fun _ => ?_ | (with_reducible refine hyp ?_ ?_; first | assumption | exact leftT_mem (by assumption)) | (with_reducible refine need ?_ ?_; first | trivial | omega | exact ⟨by assumption, by omega⟩ | (simp only [List.length_append, List.length_cons, List.length_nil, List.length_map, List.length_take, List.length_drop, List.length_replicate, List.length_set]; omega)) | (with_reducible refine fact ?_ ?_; first | trivial | exact ⟨rfl, rfl⟩ | kernel_rfl) | with_reducible refine choT (by assumption) ?_ | with_reducible refine choF (by assumption) ?_ | with_reducible refine choF' (by assumption) ?_ | (with_reducible refine altT ?_ ?_; first | omega | (simp only [List.length_append, List.length_cons, List.length_nil, List.length_map, List.length_take, List.length_drop, List.length_replicate, List.length_set]; omega)) | with_reducible refine altF ?_ | with_reducible refine all fun _ => ?_ | with_reducible refine both ?_ ?_ | (with_reducible refine choT ?_ ?_; omega) | (with_reducible refine choF ?_ ?_; omega) | with_reducible refine cho (fun _ => ?_) (fun _ => ?_))
    exact ⟨_, _, _, rfl, retOwn (Sub.refl _ _), rfl, rfl⟩
instance {a : AV} {l : List En} {m : SM} [h : IsL a En.av 4 l m] : PC Go.Proofs.Try.prog 18 [a] (l.length ≤ 1000000) (.lst 1 ((l.map enB).map tx) .ro) := ⟨fun hl => ⟨[.lst 4 (l.map En.av) m], ⟨h.sub, trivial⟩, ref11_Leaves_ok l m hl⟩⟩
theorem ref11_Describe_ok (b : Int) (lev : Nat) (l : List En) (m : SM) (hl : l.length ≤ 1000000) (hv : lev ≤ 1000) : aPure Go.Proofs.Try.prog 16 [I .i64 b, I .i64 (lev : Nat), .lst 4 (l.map En.av) m] (.tuple [tabA (dLev lev l : Nat) (dCnt lev l : Nat) (dRoot b lev l) (dFst lev l) (dLst lev l), I .i64 (dErr lev l : Nat)]) := by
  refine ACalls.fin (ref11_Describe.go ?_)
  unfold ref11_Describe.sh
  have hb : (l.map enB).length ≤ 1000000 ∧ ∀ b ∈ l.map enB, b.length ≤ 10000000000000 := ⟨by simpa using hl, fun b h => by
    obtain ⟨e, _, rfl⟩ := List.mem_map.1 h
    have := enB_length e
    omega⟩
  by_cases hf : dFit lev l = true
  · have h1 := hf
    unfold dFit at h1
    simp only [Bool.and_eq_true, decide_eq_true_eq] at h1
    obtain ⟨hfit, h4⟩ := h1
    have h0 : 0 < l.length := (fit_right hfit).2.1
    unfold dLev dCnt dRoot dFst dLst dErr
    simp only [if_pos hf]
    repeat' (first | with_reducible apply Stp.go | with_reducible refine imp fun _ => ?_ | (with_reducible refine hyp ?_ ?_; first | assumption | exact leftT_mem (by assumption)) | (with_reducible refine need ?_ ?_; first | trivial | omega | exact ⟨by assumption, by omega⟩ | (simp only [List.length_append, List.length_cons, List.length_nil, List.length_map, List.length_take, List.length_drop, List.length_replicate, List.length_set]; omega)) | (with_reducible refine fact ?_ ?_; first | trivial | exact ⟨rfl, rfl⟩ | kernel_rfl) | with_reducible refine choT (by assumption) ?_ | with_reducible refine choF (by assumption) ?_ | with_reducible refine choF' (by assumption) ?_ | (with_reducible refine altT ?_ ?_; first | omega | (simp only [List.length_append, List.length_cons, List.length_nil, List.length_map, List.length_take, List.length_drop, List.length_replicate, List.length_set]; omega)) | with_reducible refine altF ?_ | with_reducible refine all fun _ => ?_ | with_reducible refine both ?_ ?_ | (with_reducible refine choT ?_ ?_; omega) | (with_reducible refine choF ?_ ?_; omega) | with_reducible refine cho (fun _ => ?_) (fun _ => ?_))
    refine litTab rfl rfl ?_
    repeat' (first | with_reducible apply Stp.go | with_reducible refine imp fun _ => ?_ | (with_reducible refine hyp ?_ ?_; first | assumption | exact leftT_mem (by assumption)) | (with_reducible refine need ?_ ?_; first | trivial | omega | exact ⟨by assumption, by omega⟩ | (simp only [List.length_append, List.length_cons, List.length_nil, List.length_map, List.length_take, List.length_drop, List.length_replicate, List.length_set]; omega)) | (with_reducible refine fact ?_ ?_; first | trivial | exact ⟨rfl, rfl⟩ | kernel_rfl) | with_reducible refine choT (by assumption) ?_ | with_reducible refine choF (by assumption) ?_ | with_reducible refine choF' (by assumption) ?_ | (with_reducible refine altT ?_ ?_; first | omega | (simp only [List.length_append, List.length_cons, List.length_nil, List.length_map, List.length_take, List.length_drop, List.length_replicate, List.length_set]; omega)) | with_reducible refine altF ?_ | with_reducible refine all fun _ => ?_ | with_reducible refine both ?_ ?_ | (with_reducible refine choT ?_ ?_; omega) | (with_reducible refine choF ?_ ?_; omega) | with_reducible refine cho (fun _ => ?_) (fun _ => ?_))
    exact ⟨_, _, _, rfl, Sub.app_nil _, rfl, rfl⟩
  · unfold dLev dCnt dRoot dFst dLst dErr
    simp only [if_neg hf]
    have hcon : ¬ (fit l = true ∧ lev < 4) := by
      intro h
      apply hf
      unfold dFit
      rw [h.1, decide_eq_true h.2]; rfl
    repeat' (first | with_reducible apply Stp.go | with_reducible refine imp fun _ => ?_ | (with_reducible refine hyp ?_ ?_; first | assumption | exact leftT_mem (by assumption)) | (with_reducible refine need ?_ ?_; first | trivial | omega | exact ⟨by assumption, by omega⟩ | (simp only [List.length_append, List.length_cons, List.length_nil, List.length_map, List.length_take, List.length_drop, List.length_replicate, List.length_set]; omega)) | (with_reducible refine fact ?_ ?_; first | trivial | exact ⟨rfl, rfl⟩ | kernel_rfl) | with_reducible refine choT (by assumption) ?_ | with_reducible refine choF (by assumption) ?_ | with_reducible refine choF' (by assumption) ?_ | (with_reducible refine altT ?_ ?_; first | omega | (simp only [List.length_append, List.length_cons, List.length_nil, List.length_map, List.length_take, List.length_drop, List.length_replicate, List.length_set]; omega)) | with_reducible refine altF ?_ | with_reducible refine all fun _ => ?_ | with_reducible refine both ?_ ?_ | (with_reducible refine choT ?_ ?_; omega) | (with_reducible refine choF ?_ ?_; omega) | with_reducible refine cho (fun _ => ?_) (fun _ => ?_))
    all_goals first
      | (exfalso; apply hcon; refine ⟨?_, ?_⟩ <;> first | assumption | omega)
      | (refine (stTab (lev := 0) (n := 0) (d := zeroD) (f := []) (g := [])).go ?_
         repeat' (first | with_reducible apply Stp.go | with_reducible refine imp fun _ => ?_ | (with_reducible refine hyp ?_ ?_; first | assumption | exact leftT_mem (by assumption)) | (with_reducible refine need ?_ ?_; first | trivial | omega | exact ⟨by assumption, by omega⟩ | (simp only [List.length_append, List.length_cons, List.length_nil, List.length_map, List.length_take, List.length_drop, List.length_replicate, List.length_set]; omega)) | (with_reducible refine fact ?_ ?_; first | trivial | exact ⟨rfl, rfl⟩ | kernel_rfl) | with_reducible refine choT (by assumption) ?_ | with_reducible refine choF (by assumption) ?_ | with_reducible refine choF' (by assumption) ?_ | (with_reducible refine altT ?_ ?_; first | omega | (simp only [List.length_append, List.length_cons, List.length_nil, List.length_map, List.length_take, List.length_drop, List.length_replicate, List.length_set]; omega)) | with_reducible refine altF ?_ | with_reducible refine all fun _ => ?_ | with_reducible refine both ?_ ?_ | (with_reducible refine choT ?_ ?_; omega) | (with_reducible refine choF ?_ ?_; omega) | with_reducible refine cho (fun _ => ?_) (fun _ => ?_))
         exact ⟨_, _, _, rfl, Sub.app_nil _, rfl, rfl⟩)
      | trace_state
theorem ref11_descZ {b lev : Int} {l : List En} {m : SM} (h : ¬ (fit l = true ∧ 0 ≤ lev ∧ lev < 4)) (hl : l.length ≤ 1000000) : aPure Go.Proofs.Try.prog 16 [I .i64 b, I .i64 lev, .lst 4 (l.map En.av) m] (.tuple [tabA 0 0 zeroD [] [], I .i64 1]) := by
  refine ACalls.fin (ref11_Describe.go ?_)
  unfold ref11_Describe.sh
  repeat' (first | with_reducible apply Stp.go | with_reducible refine imp fun _ => ?_ | (with_reducible refine hyp ?_ ?_; first | assumption | exact leftT_mem (by assumption)) | (with_reducible refine need ?_ ?_; first | trivial | omega | exact ⟨by assumption, by omega⟩ | (simp only [List.length_append, List.length_cons, List.length_nil, List.length_map, List.length_take, List.length_drop, List.length_replicate, List.length_set]; omega)) | (with_reducible refine fact ?_ ?_; first | trivial | exact ⟨rfl, rfl⟩ | kernel_rfl) | with_reducible refine choT (by assumption) ?_ | with_reducible refine choF (by assumption) ?_ | with_reducible refine choF' (by assumption) ?_ | (with_reducible refine altT ?_ ?_; first | omega | (simp only [List.length_append, List.length_cons, List.length_nil, List.length_map, List.length_take, List.length_drop, List.length_replicate, List.length_set]; omega)) | with_reducible refine altF ?_ | with_reducible refine all fun _ => ?_ | with_reducible refine both ?_ ?_ | (with_reducible refine choT ?_ ?_; omega) | (with_reducible refine choF ?_ ?_; omega) | with_reducible refine cho (fun _ => ?_) (fun _ => ?_))
  all_goals first
    | (exfalso; apply h; refine ⟨?_, ?_, ?_⟩ <;> first | assumption | omega)
    | (refine (stTab (lev := 0) (n := 0) (d := zeroD) (f := []) (g := [])).go ?_
       repeat' (first | with_reducible apply Stp.go | with_reducible refine imp fun _ => ?_ | (with_reducible refine hyp ?_ ?_; first | assumption | exact leftT_mem (by assumption)) | (with_reducible refine need ?_ ?_; first | trivial | omega | exact ⟨by assumption, by omega⟩ | (simp only [List.length_append, List.length_cons, List.length_nil, List.length_map, List.length_take, List.length_drop, List.length_replicate, List.length_set]; omega)) | (with_reducible refine fact ?_ ?_; first | trivial | exact ⟨rfl, rfl⟩ | kernel_rfl) | with_reducible refine choT (by assumption) ?_ | with_reducible refine choF (by assumption) ?_ | with_reducible refine choF' (by assumption) ?_ | (with_reducible refine altT ?_ ?_; first | omega | (simp only [List.length_append, List.length_cons, List.length_nil, List.length_map, List.length_take, List.length_drop, List.length_replicate, List.length_set]; omega)) | with_reducible refine altF ?_ | with_reducible refine all fun _ => ?_ | with_reducible refine both ?_ ?_ | (with_reducible refine choT ?_ ?_; omega) | (with_reducible refine choF ?_ ?_; omega) | with_reducible refine cho (fun _ => ?_) (fun _ => ?_))
       exact ⟨_, _, _, rfl, Sub.app_nil _, rfl, rfl⟩)
    | trace_state
theorem refDesc {a : AV} {m : SM} {b x : Int} {l : List En} [h : IsL a En.av 4 l m] {lev : Nat} (hx : x = (lev : Nat)) (hf : fit l = true) (hv : lev < 4) : PC Go.Proofs.Try.prog 16 [I .i64 b, .val (.int .i64 x), a] True (.tuple [tabA x (l.length : Nat) (rootD b (l.map enB)) (l.getD 0 default).key (l.getD (l.length - 1) default).key, .val (.int .i64 0)]) := ⟨fun _ => by
  subst hx
  have h64 := (fit_right hf).1
  have hd : dFit lev l = true := by unfold dFit; rw [hf, decide_eq_true hv]; rfl
  have := ref11_Describe_ok b lev l m (by omega) (by omega)
  unfold dLev dCnt dRoot dFst dLst dErr at this
  simp only [if_pos hd] at this
  exact ⟨[I .i64 b, I .i64 (lev : Nat), .lst 4 (l.map En.av) m], ⟨SubV.refl _, SubV.refl _, h.sub, trivial⟩, this⟩⟩
theorem refDescZ {a : AV} {m : SM} {b x : Int} {l : List En} [h : IsL a En.av 4 l m] (hf : ¬ (fit l = true ∧ 0 ≤ x ∧ x < 4)) (hl : l.length ≤ 1000000) : PC Go.Proofs.Try.prog 16 [I .i64 b, .val (.int .i64 x), a] True (.tuple [tabA 0 0 zeroD [] [], .val (.int .i64 1)]) := ⟨fun _ => ⟨[I .i64 b, I .i64 x, .lst 4 (l.map En.av) m], ⟨SubV.refl _, SubV.refl _, h.sub, trivial⟩, ref11_descZ hf hl⟩⟩
end Go.Ab

/- Layer 11: TableBytes. -/
set_option linter.unusedVariables false
set_option linter.unusedSimpArgs false
namespace Go.Ab
def law11_TableBytes.mark : Mark := ⟨fun t => Nat.beq t 22 || Nat.beq t 24 || Nat.beq t 30 || Nat.beq t 35 || Nat.beq t 43 || Nat.beq t 50 || Nat.beq t 54 || Nat.beq t 56 || Nat.beq t 83 || Nat.beq t 114, fun t => Nat.beq t 25, fun t => false, fun t => Nat.beq t 74 || Nat.beq t 79, fun t => false⟩
def law11_TableBytes.ann : Ann := ⟨fun n => bif Nat.beq n 12 then [0, 7, 8, 9, 10, 11, 12, 13, 14, 15, 16, 17, 18, 19, 20] else [], fun n => none, fun n => none⟩
/-- 'marlstone/marlstonelaw11.TableBytes' -/
def law11_TableBytes.sh (a0 a1 a2 : AV) (σ : Store) (Q : AEnd → Store → Prop) : Prop :=
  Do (aPureC Go.Proofs.Try.prog 11 []) fun t22 =>
  Do (aPureC Go.Proofs.Try.prog 12 [a0, (.val (.int .i64 70))]) fun t24 =>
  aRowL 52 (mkE [.val (.string ⟨#[]⟩), .val (.string ⟨#[]⟩), .val (.bool false), .val (.int .i64 0)]) 4 0 [] σ fun t25 σ =>
  aAppend 52 4 48 t25 t24 σ (subF fun t27 σ_1 =>
  Do (aPureC Go.Proofs.Try.prog 13 [t27]) fun t30 =>
  Do (aExt t30 0) fun t31 =>
  Do (aExt t30 1) fun t32 =>
  Do (aPureC Go.Proofs.Try.prog 14 [t24]) fun t35 =>
  Do (aExt t35 0) fun t36 =>
  Do (aExt t35 1) fun t37 =>
  Do (aLit [.val (.int .i64 0)] [(0, 1)] [(0, a2)]) fun t40 =>
  Do (aPureC Go.Proofs.Try.prog 15 [t40, a1, t27]) fun t43 =>
  Do (aExt t43 0) fun t44 =>
  Do (aExt t43 1) fun t45 =>
  aNewVar 34 [.val (.int .i64 0), .val (.int .i64 0), .val (.int .u8 0), .val (.int .u8 0), .val (.int .u8 0), .val (.int .u8 0), .val (.int .u8 0), .val (.int .u8 0), .val (.int .u8 0), .val (.int .u8 0), .val (.int .u8 0), .val (.int .u8 0), .val (.int .u8 0), .val (.int .u8 0), .val (.int .u8 0), .val (.int .u8 0), .val (.int .u8 0), .val (.int .u8 0), .val (.int .u8 0), .val (.int .u8 0), .val (.int .u8 0), .val (.int .u8 0), .val (.int .u8 0), .val (.int .u8 0), .val (.int .u8 0), .val (.int .u8 0), .val (.int .u8 0), .val (.int .u8 0), .val (.int .u8 0), .val (.int .u8 0), .val (.int .u8 0), .val (.int .u8 0), .val (.int .u8 0), .val (.int .u8 0), .val (.string ⟨#[]⟩), .val (.string ⟨#[]⟩)] σ_1 fun t13 σ_2 =>
  storeA 36 t13 t44 σ_2 fun u σ_3 =>
  Do (aPureC Go.Proofs.Try.prog 16 [a2, a1, t24]) fun t50 =>
  Do (aExt t50 0) fun t51 =>
  Do (aExt t50 1) fun t52 =>
  aNewVar 34 [.val (.int .i64 0), .val (.int .i64 0), .val (.int .u8 0), .val (.int .u8 0), .val (.int .u8 0), .val (.int .u8 0), .val (.int .u8 0), .val (.int .u8 0), .val (.int .u8 0), .val (.int .u8 0), .val (.int .u8 0), .val (.int .u8 0), .val (.int .u8 0), .val (.int .u8 0), .val (.int .u8 0), .val (.int .u8 0), .val (.int .u8 0), .val (.int .u8 0), .val (.int .u8 0), .val (.int .u8 0), .val (.int .u8 0), .val (.int .u8 0), .val (.int .u8 0), .val (.int .u8 0), .val (.int .u8 0), .val (.int .u8 0), .val (.int .u8 0), .val (.int .u8 0), .val (.int .u8 0), .val (.int .u8 0), .val (.int .u8 0), .val (.int .u8 0), .val (.int .u8 0), .val (.int .u8 0), .val (.string ⟨#[]⟩), .val (.string ⟨#[]⟩)] σ_3 fun t15 σ_4 =>
  storeA 36 t15 t51 σ_4 fun u_1 σ_5 =>
  Do (aPureC Go.Proofs.Try.prog 17 [t27]) fun t54 =>
  Do (aPureC Go.Proofs.Try.prog 18 [t24]) fun t56 =>
  Do (aBuiltin Go.Proofs.Try.prog .len #[40] [t54]) fun t58 =>
  Do (aBuiltin Go.Proofs.Try.prog .len #[42] [t56]) fun t60 =>
  Do (aBin Go.Proofs.Try.prog .eql 3 t58 t60) fun t61 =>
  aLoop (fun go vs σ_6 =>
    At vs 0 fun s0 => At vs 1 fun s7 => At vs 2 fun s8 => At vs 3 fun s9 => At vs 4 fun s10 => At vs 5 fun s11 => At vs 6 fun s12 => At vs 7 fun s13 => At vs 8 fun s14 => At vs 9 fun s15 => At vs 10 fun s16 => At vs 11 fun s17 => At vs 12 fun s18 => At vs 13 fun s19 => At vs 14 fun s20 => Do (aBuiltin Go.Proofs.Try.prog .len #[40] [s17]) fun t64 =>
    Do (aBin Go.Proofs.Try.prog .lss 3 s20 t64) fun t65 =>
    Do (aGuard t65 true (aIs s19)) fun t67 =>
    Do (aPick t65 t67 (.val (.bool false))) fun t68 =>
    aCond t68
      (Do (aIndexAddr .slice 1 s17 s20) fun t73 =>
    Do (loadF false 1 t73) fun t74 =>
    Do (aConvBS t74) fun t75 =>
    Do (aIndexAddr .slice 1 s18 s20) fun t78 =>
    Do (loadF false 1 t78) fun t79 =>
    Do (aBin Go.Proofs.Try.prog .eql 9 t75 t79) fun t80 =>
    Do (aBin Go.Proofs.Try.prog .add 3 s20 (.val (.int .i64 1))) fun t70 =>
    go [s0, s7, s8, s9, s10, s11, s12, s13, s14, s15, s16, s17, s18, t80, t70] σ_6)
      (Do (aPureC Go.Proofs.Try.prog 19 [s8, s0]) fun t83 =>
  Do (aGuard s7 true (aIs s9)) fun t86 =>
  Do (aGuard s7 true (aConvBS t86)) fun t87 =>
  Do (aGuard s7 true (aIs s11)) fun t88 =>
  Do (aGuard s7 true (aBin Go.Proofs.Try.prog .eql 9 t87 t88)) fun t89 =>
  Do (aPick s7 t89 (.val (.bool false))) fun t90 =>
  Do (aGuard t90 true (aIs s10)) fun t92 =>
  Do (aGuard t90 true (aIs s12)) fun t93 =>
  Do (aGuard t90 true (aBin Go.Proofs.Try.prog .eql 26 t92 t93)) fun t94 =>
  Do (aPick t90 t94 (.val (.bool false))) fun t95 =>
  Do (aGuard t95 true (loadA true 36 s13 σ_6)) fun t97 =>
  Do (aGuard t95 true (loadA true 36 s15 σ_6)) fun t98 =>
  Do (aGuard t95 true (aBin Go.Proofs.Try.prog .eql 34 t97 t98)) fun t99 =>
  Do (aPick t95 t99 (.val (.bool false))) fun t100 =>
  Do (aGuard t100 true (aIs s14)) fun t102 =>
  Do (aGuard t100 true (aIs s16)) fun t103 =>
  Do (aGuard t100 true (aBin Go.Proofs.Try.prog .eql 26 t102 t103)) fun t104 =>
  Do (aPick t100 t104 (.val (.bool false))) fun t105 =>
  Do (aGuard t105 true (aIs s19)) fun t107 =>
  Do (aPick t105 t107 (.val (.bool false))) fun t108 =>
  Do (aGuard t108 true (aIs t83)) fun t110 =>
  Do (aPick t108 t110 (.val (.bool false))) fun t111 =>
  Do (aGuard t111 true (aIs s8)) fun t113 =>
  Do (aGuard t111 true (aPureC Go.Proofs.Try.prog 20 [t113])) fun t114 =>
  Do (aGuard t111 true (aIs s12)) fun t115 =>
  Do (aGuard t111 true (aBin Go.Proofs.Try.prog .eql 26 t115 (.val (.int .i64 0)))) fun t116 =>
  Do (aGuard t111 true (aBin Go.Proofs.Try.prog .eql 4 t114 t116)) fun t117 =>
  Do (aPick t111 t117 (.val (.bool false))) fun t118 =>
  Q (.ret t118) σ_6))
    [t24, t22, t27, t31, t32, t36, t37, t13, t45, t15, t52, t54, t56, t61, (.val (.int .i64 0))] σ_5)
theorem law11_TableBytes.eq (a0 a1 a2 : AV) (σ : Store) (Q : AEnd → Store → Prop) : vc (semOf Go.Proofs.Try.prog law11_TableBytes.mark) Go.Proofs.Try.f3.ntmps law11_TableBytes.ann (bodyOf Go.Proofs.Try.f3) (endK [.tmp 6] Q) (argFr [a0, a1, a2]) σ = law11_TableBytes.sh a0 a1 a2 σ Q := by kernel_rfl
theorem law11_TableBytes.go {a0 a1 a2 : AV} {σ : Store} {Q : AEnd → Store → Prop} (h : law11_TableBytes.sh a0 a1 a2 σ Q) : ACalls Go.Proofs.Try.prog 3 [a0, a1, a2] σ Q :=
  acalls_of_eq [.tmp 6] Go.Proofs.Try.func3 (by kernel_rfl) (by kernel_rfl) (by kernel_rfl) (by kernel_rfl) (law11_TableBytes.eq a0 a1 a2 σ Q) h
theorem TableBytes_at (L l : List En) (m : SM) (x b : Int) (d : List UInt8) [hd : Len32 d] (lv n : Int) (f g : List UInt8) (er : Nat) (hL : L = (l.take 70).map (cutE 130 1030)) (hl : l.length ≤ 100000000000000)
    (hP : ∀ {a : AV} {m : SM} [h : IsL a En.av 4 L m], PC Go.Proofs.Try.prog 15 [trA b, .val (.int .i64 x), a] True (.tuple [tabA lv n d f g, .val (.int .i64 (er : Nat))]))
    (hR : ∀ {a : AV} {m : SM} [h : IsL a En.av 4 L m], PC Go.Proofs.Try.prog 16 [I .i64 b, .val (.int .i64 x), a] True (.tuple [tabA lv n d f g, .val (.int .i64 (er : Nat))])) : aPure Go.Proofs.Try.prog 3 [.lst 4 (l.map En.av) m, I .i64 x, I .i64 b] (B true) := by
  refine ACalls.fin (law11_TableBytes.go ?_)
  unfold law11_TableBytes.sh
  have h70 : L.length ≤ 70 := by rw [hL]; simp; omega
  have iF : PC Go.Proofs.Try.prog 12 [.lst 4 (l.map En.av) m, .val (.int .i64 70)] True (.lst 4 (L.map En.av) .ro) := ⟨fun _ => by rw [hL]; exact PC.of (few11_ok l m 70 hl (by decide))⟩
  have hP2 : PC Go.Proofs.Try.prog 15 [trA b, .val (.int .i64 x), .lst 4 (([] ++ L).map En.av) .ro] True (.tuple [tabA lv n d f g, .val (.int .i64 (er : Nat))]) := hP (a := .lst 4 (L.map En.av) .ro)
  have i1 : PC Go.Proofs.Try.prog 13 [.lst 4 (([] ++ L).map En.av) .ro] True (.tuple [.lst 1 ((tbB L).map byt) .ro, I .i64 (tbE L : Nat)]) := ⟨fun _ => PC.of (tBytes_ok L .ro (by omega))⟩
  have i2 : PC Go.Proofs.Try.prog 17 [.lst 4 (([] ++ L).map En.av) .ro] True (.lst 1 ((L.map enB).map bl) .ro) := ⟨fun _ => PC.of (Leaves_ok L .ro (by omega))⟩
  have i3 : PC Go.Proofs.Try.prog 20 [.lst 4 (([] ++ L).map En.av) .ro] True (B (fit L)) := ⟨fun _ => PC.of (tFit_ok L .ro (by omega))⟩
  have i4 : PC Go.Proofs.Try.prog 19 [.lst 4 (([] ++ L).map En.av) .ro, .lst 4 (L.map En.av) .ro] True (B true) := ⟨fun _ => by
    have := PC.of (Same_ok L L .ro .ro (by omega))
    rw [decide_eq_true rfl] at this
    exact this⟩
  repeat' (first | with_reducible apply Stp.go | with_reducible refine imp fun _ => ?_ | (with_reducible refine hyp ?_ ?_; first | assumption | exact leftT_mem (by assumption)) | (with_reducible refine need ?_ ?_; first | trivial | omega | exact ⟨by assumption, by omega⟩ | (simp only [List.length_append, List.length_cons, List.length_nil, List.length_map, List.length_take, List.length_drop, List.length_replicate, List.length_set]; omega)) | (with_reducible refine fact ?_ ?_; first | trivial | exact ⟨rfl, rfl⟩ | kernel_rfl) | with_reducible refine choT (by assumption) ?_ | with_reducible refine choF (by assumption) ?_ | with_reducible refine choF' (by assumption) ?_ | (with_reducible refine altT ?_ ?_; first | omega | (simp only [List.length_append, List.length_cons, List.length_nil, List.length_map, List.length_take, List.length_drop, List.length_replicate, List.length_set]; omega)) | with_reducible refine altF ?_ | with_reducible refine all fun _ => ?_ | with_reducible refine both ?_ ?_ | (with_reducible refine choT ?_ ?_; omega) | (with_reducible refine choF ?_ ?_; omega) | with_reducible refine cho (fun _ => ?_) (fun _ => ?_))
  rename_i vx vy
  rw [decide_eq_true (rfl : (L.map enB).length = (L.map enB).length)]
  refine loopI (β := Nat) (fun i => i ≤ L.length) (fun i => [.lst 4 (L.map En.av) .ro, B true, .lst 4 (([] ++ L).map En.av) .ro, .lst 1 ((tbB L).map byt) .ro, I .i64 (tbE L : Nat), S (tbB L), I .i64 (tbE L : Nat), ptrAt vx 0, I .i64 (er : Nat), ptrAt vy 0, I .i64 (er : Nat), .lst 1 ((L.map enB).map bl) .ro, .lst 1 ((L.map enB).map tx) .ro, B true, I .i64 (i : Nat)])
    (fun _ => [.var vy TabT (tabCs lv n d f g), .var vx TabT (tabCs lv n d f g)]) (fun i => L.length - i) 0 (Nat.zero_le _) (Sub.refl _ _) ?_
  intro i hi
  have hml : (L.map enB).length = L.length := by simp
  by_cases hlt : i < L.length
  · repeat' (first | with_reducible apply Stp.go | with_reducible refine imp fun _ => ?_ | (with_reducible refine hyp ?_ ?_; first | assumption | exact leftT_mem (by assumption)) | (with_reducible refine need ?_ ?_; first | trivial | omega | exact ⟨by assumption, by omega⟩ | (simp only [List.length_append, List.length_cons, List.length_nil, List.length_map, List.length_take, List.length_drop, List.length_replicate, List.length_set]; omega)) | (with_reducible refine fact ?_ ?_; first | trivial | exact ⟨rfl, rfl⟩ | kernel_rfl) | with_reducible refine choT (by assumption) ?_ | with_reducible refine choF (by assumption) ?_ | with_reducible refine choF' (by assumption) ?_ | (with_reducible refine altT ?_ ?_; first | omega | (simp only [List.length_append, List.length_cons, List.length_nil, List.length_map, List.length_take, List.length_drop, List.length_replicate, List.length_set]; omega)) | with_reducible refine altF ?_ | with_reducible refine all fun _ => ?_ | with_reducible refine both ?_ ?_ | (with_reducible refine choT ?_ ?_; omega) | (with_reducible refine choF ?_ ?_; omega) | with_reducible refine cho (fun _ => ?_) (fun _ => ?_))
    refine again (i + 1) (by omega) (by omega) ?_
    rw [decide_eq_true rfl]
    exact Sub.refl _ _
  · have q1 : tbB L = tbB L := rfl
    have q2 : tbE L = tbE L := rfl
    have q3 : er = er := rfl
    have hF : fit L = decide (tbE L = 0) := by unfold tbE; cases fit L <;> rfl
    repeat' (first | with_reducible apply Stp.go | with_reducible refine imp fun _ => ?_ | (with_reducible refine hyp ?_ ?_; first | assumption | exact leftT_mem (by assumption)) | (with_reducible refine need ?_ ?_; first | trivial | omega | exact ⟨by assumption, by omega⟩ | (simp only [List.length_append, List.length_cons, List.length_nil, List.length_map, List.length_take, List.length_drop, List.length_replicate, List.length_set]; omega)) | (with_reducible refine fact ?_ ?_; first | trivial | exact ⟨rfl, rfl⟩ | kernel_rfl) | with_reducible refine choT (by assumption) ?_ | with_reducible refine choF (by assumption) ?_ | with_reducible refine choF' (by assumption) ?_ | (with_reducible refine altT ?_ ?_; first | omega | (simp only [List.length_append, List.length_cons, List.length_nil, List.length_map, List.length_take, List.length_drop, List.length_replicate, List.length_set]; omega)) | with_reducible refine altF ?_ | with_reducible refine all fun _ => ?_ | with_reducible refine both ?_ ?_ | (with_reducible refine choT ?_ ?_; omega) | (with_reducible refine choF ?_ ?_; omega) | with_reducible refine cho (fun _ => ?_) (fun _ => ?_))
    all_goals first
      | contradiction
      | (exfalso; omega)
      | exact ⟨_, _, _, rfl, Sub.app_nil _, by rw [decide_eq_true hF], rfl⟩
      | trace_state
theorem TableBytes_ok (l : List En) (m : SM) (x b : Int) (hl : l.length ≤ 100000000000000) (hx : (Lit.int .i64 x).wf = true) (hb : (Lit.int .i64 b).wf = true) : aPure Go.Proofs.Try.prog 3 [.lst 4 (l.map En.av) m, I .i64 x, I .i64 b] (B true) := by
  obtain ⟨L, hL⟩ : ∃ L, L = (l.take 70).map (cutE 130 1030) := ⟨_, rfl⟩
  have h70 : L.length ≤ 70 := by rw [hL]; simp; omega
  by_cases hf : fit L = true ∧ 0 ≤ x ∧ x < 4
  · exact TableBytes_at L l m x b _ x (L.length : Nat) _ _ 0 hL hl (fun {a m h} => desc11 (lev := x.toNat) (by omega) hf.1 (by omega)) (fun {a m h} => refDesc (lev := x.toNat) (by omega) hf.1 (by omega))
  · exact TableBytes_at L l m x b zeroD 0 0 [] [] 1 hL hl (fun {a m h} => desc11Z hf (by omega)) (fun {a m h} => refDescZ hf (by omega))
end Go.Ab
