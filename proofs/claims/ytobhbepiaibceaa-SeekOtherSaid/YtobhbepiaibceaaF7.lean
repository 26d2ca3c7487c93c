/- Folds, and places of keys. -/
import Derived.Test.YtobhbepiaibceaaF4
import Derived.Test.YtobhbepiaibceaaSp3
set_option linter.unusedVariables false
set_option linter.unusedSimpArgs false
namespace Go.Ab
def entry_Find.mark : Mark := ⟨fun t => false, fun t => false, fun t => false, fun t => Nat.beq t 15, fun t => false⟩
def entry_Find.ann : Ann := ⟨fun n => bif Nat.beq n 3 then [1, 6, 7, 10, 11, 12] else [], fun n => bif Nat.beq n 7 then some [1, 6, 7, 9, 10, 11, 12] else none, fun n => none⟩
/-- 'marlstone/entry.Find' -/
def entry_Find.sh (a0 a1 : AV) (σ : Store) (Q : AEnd → Store → Prop) : Prop :=
  Do (aBuiltin Go.Proofs.Try.prog .len #[22] [a0]) fun t11 =>
  aLoop (fun go vs σ =>
    At vs 0 fun s1 => At vs 1 fun s6 => At vs 2 fun s7 => At vs 3 fun s10 => At vs 4 fun s11 => At vs 5 fun s12 => Do (aBin Go.Proofs.Try.prog .lss 3 s12 s11) fun t13 =>
    aCond t13
      (Do (aIndexAddr .slice 4 s10 s12) fun t14 =>
    Do (loadF true 4 t14) fun t15 =>
    aNewVar 54 [.val (.string ⟨#[]⟩), .val (.string ⟨#[]⟩), .val (.bool false), .val (.int .i64 0)] σ fun t9 σ_1 =>
    storeA 4 t9 t15 σ_1 fun u σ_2 =>
    aJoin (fun j =>
      Do (aFieldAddr 0 1 t9) fun t16 =>
      Do (loadA false 1 t16 σ_2) fun t17 =>
      Do (aBin Go.Proofs.Try.prog .lss 9 t17 s1) fun t19 =>
      aCond t19
        (Do (aBin Go.Proofs.Try.prog .add 3 s6 (.val (.int .i64 1))) fun t21 =>
        j [s1, t21, s7, t9, s10, s11, s12] σ_2)
        (j [s1, s6, s7, t9, s10, s11, s12] σ_2)) fun vs_1 σ_3 =>
    At vs_1 0 fun s1_1 => At vs_1 1 fun s6_1 => At vs_1 2 fun s7_1 => At vs_1 3 fun s9 => At vs_1 4 fun s10_1 => At vs_1 5 fun s11_1 => At vs_1 6 fun s12_1 => Do (aGuard s7_1 false (aFieldAddr 0 1 s9)) fun t24 =>
    Do (aGuard s7_1 false (loadA false 1 t24 σ_3)) fun t25 =>
    Do (aGuard s7_1 false (aIs s1_1)) fun t26 =>
    Do (aGuard s7_1 false (aBin Go.Proofs.Try.prog .eql 9 t25 t26)) fun t27 =>
    Do (aPick s7_1 (.val (.bool true)) t27) fun t28 =>
    Do (aBin Go.Proofs.Try.prog .add 3 s12_1 (.val (.int .i64 1))) fun t29 =>
    go [s1_1, s6_1, t28, s10_1, s11_1, t29] σ_3)
      (Q (.ret (.tuple [s6, s7])) σ))
    [a1, (.val (.int .i64 0)), (.val (.bool false)), a0, t11, (.val (.int .i64 0))] σ
theorem entry_Find.eq (a0 a1 : AV) (σ : Store) (Q : AEnd → Store → Prop) : vc (semOf Go.Proofs.Try.prog entry_Find.mark) Go.Proofs.Try.f31.ntmps entry_Find.ann (bodyOf Go.Proofs.Try.f31) (endK [.tmp 4, .tmp 5] Q) (argFr [a0, a1]) σ = entry_Find.sh a0 a1 σ Q := by kernel_rfl
theorem entry_Find.go {a0 a1 : AV} {σ : Store} {Q : AEnd → Store → Prop} (h : entry_Find.sh a0 a1 σ Q) : ACalls Go.Proofs.Try.prog 31 [a0, a1] σ Q :=
  acalls_of_eq [.tmp 4, .tmp 5] Go.Proofs.Try.func31 (by kernel_rfl) (by kernel_rfl) (by kernel_rfl) (by kernel_rfl) (entry_Find.eq a0 a1 σ Q) h
def ref03_Find.mark : Mark := ⟨fun t => false, fun t => false, fun t => false, fun t => Nat.beq t 19 || Nat.beq t 30, fun t => false⟩
def ref03_Find.ann : Ann := ⟨fun n => bif Nat.beq n 4 then [0, 1, 6, 7, 8] else [], fun n => bif Nat.beq n 8 then some [0, 1, 6, 7, 8] else none, fun n => none⟩
/-- 'marlstone/marlstoneref03.Find' -/
def ref03_Find.sh (a0 a1 : AV) (σ : Store) (Q : AEnd → Store → Prop) : Prop :=
  aLoop (fun go vs σ =>
    At vs 0 fun s0 => At vs 1 fun s1 => At vs 2 fun s6 => At vs 3 fun s7 => At vs 4 fun s8 => Do (aBuiltin Go.Proofs.Try.prog .len #[22] [s0]) fun t11 =>
    Do (aBin Go.Proofs.Try.prog .lss 3 s8 t11) fun t12 =>
    aCond t12
      (aJoin (fun j =>
      Do (aIndexAddr .slice 4 s0 s8) fun t17 =>
      Do (aFieldAddr 0 1 t17) fun t18 =>
      Do (loadF false 1 t18) fun t19 =>
      Do (aBin Go.Proofs.Try.prog .lss 9 t19 s1) fun t21 =>
      aCond t21
        (Do (aBin Go.Proofs.Try.prog .add 3 s6 (.val (.int .i64 1))) fun t23 =>
        j [s0, s1, t23, s7, s8] σ)
        (j [s0, s1, s6, s7, s8] σ)) fun vs_1 σ_1 =>
    At vs_1 0 fun s0_1 => At vs_1 1 fun s1_1 => At vs_1 2 fun s6_1 => At vs_1 3 fun s7_1 => At vs_1 4 fun s8_1 => Do (aGuard s7_1 false (aIs s0_1)) fun t26 =>
    Do (aGuard s7_1 false (aIs s8_1)) fun t27 =>
    Do (aGuard s7_1 false (aIndexAddr .slice 4 t26 t27)) fun t28 =>
    Do (aGuard s7_1 false (aFieldAddr 0 1 t28)) fun t29 =>
    Do (aGuard s7_1 false (loadF false 1 t29)) fun t30 =>
    Do (aGuard s7_1 false (aIs s1_1)) fun t31 =>
    Do (aGuard s7_1 false (aBin Go.Proofs.Try.prog .eql 9 t30 t31)) fun t32 =>
    Do (aPick s7_1 (.val (.bool true)) t32) fun t33 =>
    Do (aBin Go.Proofs.Try.prog .add 3 s8_1 (.val (.int .i64 1))) fun t14 =>
    go [s0_1, s1_1, s6_1, t33, t14] σ_1)
      (Q (.ret (.tuple [s6, s7])) σ))
    [a0, a1, (.val (.int .i64 0)), (.val (.bool false)), (.val (.int .i64 0))] σ
theorem ref03_Find.eq (a0 a1 : AV) (σ : Store) (Q : AEnd → Store → Prop) : vc (semOf Go.Proofs.Try.prog ref03_Find.mark) Go.Proofs.Try.f41.ntmps ref03_Find.ann (bodyOf Go.Proofs.Try.f41) (endK [.tmp 4, .tmp 5] Q) (argFr [a0, a1]) σ = ref03_Find.sh a0 a1 σ Q := by kernel_rfl
theorem ref03_Find.go {a0 a1 : AV} {σ : Store} {Q : AEnd → Store → Prop} (h : ref03_Find.sh a0 a1 σ Q) : ACalls Go.Proofs.Try.prog 41 [a0, a1] σ Q :=
  acalls_of_eq [.tmp 4, .tmp 5] Go.Proofs.Try.func41 (by kernel_rfl) (by kernel_rfl) (by kernel_rfl) (by kernel_rfl) (ref03_Find.eq a0 a1 σ Q) h
theorem Find_ok (l : List En) (m : SM) (k : List UInt8) (hl : l.length ≤ 1000000000000) : aPure Go.Proofs.Try.prog 31 [.lst 4 (l.map En.av) m, S k] (.tuple [I .i64 (placeN l k : Nat), B (hasK l k)]) := by
  refine entry_Find.go ?_
  unfold entry_Find.sh
  repeat' (first | with_reducible apply Stp.go | with_reducible refine imp fun _ => ?_ | (with_reducible refine hyp ?_ ?_; first | assumption | exact leftT_mem (by assumption)) | (with_reducible refine need ?_ ?_; first | trivial | omega | exact ⟨by assumption, by omega⟩ | (simp only [List.length_append, List.length_cons, List.length_nil, List.length_map, List.length_take, List.length_drop, List.length_replicate, List.length_set]; omega)) | (with_reducible refine fact ?_ ?_; first | trivial | exact ⟨rfl, rfl⟩ | kernel_rfl) | with_reducible refine choT (by assumption) ?_ | with_reducible refine choF (by assumption) ?_ | with_reducible refine choF' (by assumption) ?_ | (with_reducible refine altT ?_ ?_; first | omega | (simp only [List.length_append, List.length_cons, List.length_nil, List.length_map, List.length_take, List.length_drop, List.length_replicate, List.length_set]; omega)) | with_reducible refine altF ?_ | with_reducible refine all fun _ => ?_ | with_reducible refine both ?_ ?_ | (with_reducible refine choT ?_ ?_; omega) | (with_reducible refine choF ?_ ?_; omega) | with_reducible refine cho (fun _ => ?_) (fun _ => ?_))
  refine loopI (β := Nat) (fun i => i ≤ l.length) (fun i => [S k, I .i64 (placeN (l.take i) k : Nat), B (hasK (l.take i) k), .lst 4 (l.map En.av) m, I .i64 (l.length : Nat), I .i64 (i : Nat)]) (fun _ => []) (fun i => l.length - i) 0 (Nat.zero_le _) (Sub.refl _ _) ?_
  intro i hi
  have hp := placeN_le (l.take i) k
  have hp2 : (l.take i).length ≤ l.length := by simp; omega
  by_cases hlt : i < l.length
  · have e1 := placeN_snoc (l.take i) (l.getD i default) k
    have e2 := hasK_snoc (l.take i) (l.getD i default) k
    rw [← take_succ_d hlt] at e1 e2
    repeat' (first | with_reducible apply Stp.go | with_reducible refine imp fun _ => ?_ | (with_reducible refine hyp ?_ ?_; first | assumption | exact leftT_mem (by assumption)) | (with_reducible refine need ?_ ?_; first | trivial | omega | exact ⟨by assumption, by omega⟩ | (simp only [List.length_append, List.length_cons, List.length_nil, List.length_map, List.length_take, List.length_drop, List.length_replicate, List.length_set]; omega)) | (with_reducible refine fact ?_ ?_; first | trivial | exact ⟨rfl, rfl⟩ | kernel_rfl) | with_reducible refine choT (by assumption) ?_ | with_reducible refine choF (by assumption) ?_ | with_reducible refine choF' (by assumption) ?_ | (with_reducible refine altT ?_ ?_; first | omega | (simp only [List.length_append, List.length_cons, List.length_nil, List.length_map, List.length_take, List.length_drop, List.length_replicate, List.length_set]; omega)) | with_reducible refine altF ?_ | with_reducible refine all fun _ => ?_ | with_reducible refine both ?_ ?_ | (with_reducible refine choT ?_ ?_; omega) | (with_reducible refine choF ?_ ?_; omega) | with_reducible refine cho (fun _ => ?_) (fun _ => ?_))
    refine joinE ?_
    repeat' (first | with_reducible apply Stp.go | with_reducible refine imp fun _ => ?_ | (with_reducible refine hyp ?_ ?_; first | assumption | exact leftT_mem (by assumption)) | (with_reducible refine need ?_ ?_; first | trivial | omega | exact ⟨by assumption, by omega⟩ | (simp only [List.length_append, List.length_cons, List.length_nil, List.length_map, List.length_take, List.length_drop, List.length_replicate, List.length_set]; omega)) | (with_reducible refine fact ?_ ?_; first | trivial | exact ⟨rfl, rfl⟩ | kernel_rfl) | with_reducible refine choT (by assumption) ?_ | with_reducible refine choF (by assumption) ?_ | with_reducible refine choF' (by assumption) ?_ | (with_reducible refine altT ?_ ?_; first | omega | (simp only [List.length_append, List.length_cons, List.length_nil, List.length_map, List.length_take, List.length_drop, List.length_replicate, List.length_set]; omega)) | with_reducible refine altF ?_ | with_reducible refine all fun _ => ?_ | with_reducible refine both ?_ ?_ | (with_reducible refine choT ?_ ?_; omega) | (with_reducible refine choF ?_ ?_; omega) | with_reducible refine cho (fun _ => ?_) (fun _ => ?_))
    all_goals
      refine again (i + 1) (by omega) (by omega) ?_
      simp_all
      exact Sub.app_nil _
  · have e : l.take i = l := List.take_of_length_le (by omega)
    rw [e]
    repeat' (first | with_reducible apply Stp.go | with_reducible refine imp fun _ => ?_ | (with_reducible refine hyp ?_ ?_; first | assumption | exact leftT_mem (by assumption)) | (with_reducible refine need ?_ ?_; first | trivial | omega | exact ⟨by assumption, by omega⟩ | (simp only [List.length_append, List.length_cons, List.length_nil, List.length_map, List.length_take, List.length_drop, List.length_replicate, List.length_set]; omega)) | (with_reducible refine fact ?_ ?_; first | trivial | exact ⟨rfl, rfl⟩ | kernel_rfl) | with_reducible refine choT (by assumption) ?_ | with_reducible refine choF (by assumption) ?_ | with_reducible refine choF' (by assumption) ?_ | (with_reducible refine altT ?_ ?_; first | omega | (simp only [List.length_append, List.length_cons, List.length_nil, List.length_map, List.length_take, List.length_drop, List.length_replicate, List.length_set]; omega)) | with_reducible refine altF ?_ | with_reducible refine all fun _ => ?_ | with_reducible refine both ?_ ?_ | (with_reducible refine choT ?_ ?_; omega) | (with_reducible refine choF ?_ ?_; omega) | with_reducible refine cho (fun _ => ?_) (fun _ => ?_))
    exact ⟨rfl, rfl⟩
instance {a : AV} {l : List En} {m : SM} {k : List UInt8} [h : IsL a En.av 4 l m] : PC Go.Proofs.Try.prog 31 [a, S k] (l.length ≤ 1000000000000) (.tuple [I .i64 (placeN l k : Nat), B (hasK l k)]) := ⟨fun hl => ⟨[.lst 4 (l.map En.av) m, S k], ⟨h.sub, SubVs.refl _⟩, Find_ok l m k hl⟩⟩
theorem ref03_Find_ok (l : List En) (m : SM) (k : List UInt8) (hl : l.length ≤ 1000000000000) : aPure Go.Proofs.Try.prog 41 [.lst 4 (l.map En.av) m, S k] (.tuple [I .i64 (placeN l k : Nat), B (hasK l k)]) := by
  refine ref03_Find.go ?_
  unfold ref03_Find.sh
  repeat' (first | with_reducible apply Stp.go | with_reducible refine imp fun _ => ?_ | (with_reducible refine hyp ?_ ?_; first | assumption | exact leftT_mem (by assumption)) | (with_reducible refine need ?_ ?_; first | trivial | omega | exact ⟨by assumption, by omega⟩ | (simp only [List.length_append, List.length_cons, List.length_nil, List.length_map, List.length_take, List.length_drop, List.length_replicate, List.length_set]; omega)) | (with_reducible refine fact ?_ ?_; first | trivial | exact ⟨rfl, rfl⟩ | kernel_rfl) | with_reducible refine choT (by assumption) ?_ | with_reducible refine choF (by assumption) ?_ | with_reducible refine choF' (by assumption) ?_ | (with_reducible refine altT ?_ ?_; first | omega | (simp only [List.length_append, List.length_cons, List.length_nil, List.length_map, List.length_take, List.length_drop, List.length_replicate, List.length_set]; omega)) | with_reducible refine altF ?_ | with_reducible refine all fun _ => ?_ | with_reducible refine both ?_ ?_ | (with_reducible refine choT ?_ ?_; omega) | (with_reducible refine choF ?_ ?_; omega) | with_reducible refine cho (fun _ => ?_) (fun _ => ?_))
  refine loopI (β := Nat) (fun i => i ≤ l.length) (fun i => [.lst 4 (l.map En.av) m, S k, I .i64 (placeN (l.take i) k : Nat), B (hasK (l.take i) k), I .i64 (i : Nat)]) (fun _ => []) (fun i => l.length - i) 0 (Nat.zero_le _) (Sub.refl _ _) ?_
  intro i hi
  have hp := placeN_le (l.take i) k
  have hp2 : (l.take i).length ≤ l.length := by simp; omega
  by_cases hlt : i < l.length
  · have e1 := placeN_snoc (l.take i) (l.getD i default) k
    have e2 := hasK_snoc (l.take i) (l.getD i default) k
    rw [← take_succ_d hlt] at e1 e2
    repeat' (first | with_reducible apply Stp.go | with_reducible refine imp fun _ => ?_ | (with_reducible refine hyp ?_ ?_; first | assumption | exact leftT_mem (by assumption)) | (with_reducible refine need ?_ ?_; first | trivial | omega | exact ⟨by assumption, by omega⟩ | (simp only [List.length_append, List.length_cons, List.length_nil, List.length_map, List.length_take, List.length_drop, List.length_replicate, List.length_set]; omega)) | (with_reducible refine fact ?_ ?_; first | trivial | exact ⟨rfl, rfl⟩ | kernel_rfl) | with_reducible refine choT (by assumption) ?_ | with_reducible refine choF (by assumption) ?_ | with_reducible refine choF' (by assumption) ?_ | (with_reducible refine altT ?_ ?_; first | omega | (simp only [List.length_append, List.length_cons, List.length_nil, List.length_map, List.length_take, List.length_drop, List.length_replicate, List.length_set]; omega)) | with_reducible refine altF ?_ | with_reducible refine all fun _ => ?_ | with_reducible refine both ?_ ?_ | (with_reducible refine choT ?_ ?_; omega) | (with_reducible refine choF ?_ ?_; omega) | with_reducible refine cho (fun _ => ?_) (fun _ => ?_))
    refine joinE ?_
    repeat' (first | with_reducible apply Stp.go | with_reducible refine imp fun _ => ?_ | (with_reducible refine hyp ?_ ?_; first | assumption | exact leftT_mem (by assumption)) | (with_reducible refine need ?_ ?_; first | trivial | omega | exact ⟨by assumption, by omega⟩ | (simp only [List.length_append, List.length_cons, List.length_nil, List.length_map, List.length_take, List.length_drop, List.length_replicate, List.length_set]; omega)) | (with_reducible refine fact ?_ ?_; first | trivial | exact ⟨rfl, rfl⟩ | kernel_rfl) | with_reducible refine choT (by assumption) ?_ | with_reducible refine choF (by assumption) ?_ | with_reducible refine choF' (by assumption) ?_ | (with_reducible refine altT ?_ ?_; first | omega | (simp only [List.length_append, List.length_cons, List.length_nil, List.length_map, List.length_take, List.length_drop, List.length_replicate, List.length_set]; omega)) | with_reducible refine altF ?_ | with_reducible refine all fun _ => ?_ | with_reducible refine both ?_ ?_ | (with_reducible refine choT ?_ ?_; omega) | (with_reducible refine choF ?_ ?_; omega) | with_reducible refine cho (fun _ => ?_) (fun _ => ?_))
    all_goals
      refine again (i + 1) (by omega) (by omega) ?_
      simp_all
      exact Sub.app_nil _
  · have e : l.take i = l := List.take_of_length_le (by omega)
    rw [e]
    repeat' (first | with_reducible apply Stp.go | with_reducible refine imp fun _ => ?_ | (with_reducible refine hyp ?_ ?_; first | assumption | exact leftT_mem (by assumption)) | (with_reducible refine need ?_ ?_; first | trivial | omega | exact ⟨by assumption, by omega⟩ | (simp only [List.length_append, List.length_cons, List.length_nil, List.length_map, List.length_take, List.length_drop, List.length_replicate, List.length_set]; omega)) | (with_reducible refine fact ?_ ?_; first | trivial | exact ⟨rfl, rfl⟩ | kernel_rfl) | with_reducible refine choT (by assumption) ?_ | with_reducible refine choF (by assumption) ?_ | with_reducible refine choF' (by assumption) ?_ | (with_reducible refine altT ?_ ?_; first | omega | (simp only [List.length_append, List.length_cons, List.length_nil, List.length_map, List.length_take, List.length_drop, List.length_replicate, List.length_set]; omega)) | with_reducible refine altF ?_ | with_reducible refine all fun _ => ?_ | with_reducible refine both ?_ ?_ | (with_reducible refine choT ?_ ?_; omega) | (with_reducible refine choF ?_ ?_; omega) | with_reducible refine cho (fun _ => ?_) (fun _ => ?_))
    exact ⟨rfl, rfl⟩
instance {a : AV} {l : List En} {m : SM} {k : List UInt8} [h : IsL a En.av 4 l m] : PC Go.Proofs.Try.prog 41 [a, S k] (l.length ≤ 1000000000000) (.tuple [I .i64 (placeN l k : Nat), B (hasK l k)]) := ⟨fun hl => ⟨[.lst 4 (l.map En.av) m, S k], ⟨h.sub, SubVs.refl _⟩, ref03_Find_ok l m k hl⟩⟩
end Go.Ab
