/- Functions of layers 1, 3 and 4: bytes of numbers, what keys share, their order, what is right and fit. -/
import Derived.Test.YtobhbepiaibceaaF1
set_option linter.unusedVariables false
set_option linter.unusedSimpArgs false
namespace Go.Ab
theorem fixed_w (v : UInt32) : [UInt8.ofNat (v >>> UInt32.ofNat 24).toNat, UInt8.ofNat (v >>> UInt32.ofNat 16).toNat, UInt8.ofNat (v >>> UInt32.ofNat 8).toNat, UInt8.ofNat v.toNat] = fixed v.toNat := by
  have h : ∀ n : Nat, UInt8.ofNat n = UInt8.ofNat (n % 256) := fun n => by apply UInt8.toNat.inj; simp
  have h1 : (v >>> UInt32.ofNat 24).toNat = v.toNat / 16777216 := by simp [Nat.shiftRight_eq_div_pow]
  have h2 : (v >>> UInt32.ofNat 16).toNat = v.toNat / 65536 := by simp [Nat.shiftRight_eq_div_pow]
  have h3 : (v >>> UInt32.ofNat 8).toNat = v.toNat / 256 := by simp [Nat.shiftRight_eq_div_pow]
  unfold fixed
  rw [h1, h2, h3, h (v.toNat / 16777216), h (v.toNat / 65536), h (v.toNat / 256), h v.toNat]
def cmp_isNaN.mark : Mark := ⟨fun t => false, fun t => false, fun t => false, fun t => false, fun t => false⟩
def cmp_isNaN.ann : Ann := ⟨fun n => [], fun n => none, fun n => none⟩
/-- 'cmp.isNaN[string]' -/
def cmp_isNaN.sh (a0 : AV) (σ : Store) (Q : AEnd → Store → Prop) : Prop :=
  Do (aBin Go.Proofs.Try.prog .neq 9 a0 a0) fun t5 =>
  Q (.ret t5) σ
theorem cmp_isNaN.eq (a0 : AV) (σ : Store) (Q : AEnd → Store → Prop) : vc (semOf Go.Proofs.Try.prog cmp_isNaN.mark) Go.Proofs.Try.f130.ntmps cmp_isNaN.ann (bodyOf Go.Proofs.Try.f130) (endK [.tmp 2] Q) (argFr [a0]) σ = cmp_isNaN.sh a0 σ Q := by kernel_rfl
theorem cmp_isNaN.go {a0 : AV} {σ : Store} {Q : AEnd → Store → Prop} (h : cmp_isNaN.sh a0 σ Q) : ACalls Go.Proofs.Try.prog 130 [a0] σ Q :=
  acalls_of_eq [.tmp 2] Go.Proofs.Try.func130 (by kernel_rfl) (by kernel_rfl) (by kernel_rfl) (by kernel_rfl) (cmp_isNaN.eq a0 σ Q) h
def cmp_Compare.mark : Mark := ⟨fun t => Nat.beq t 8 || Nat.beq t 10, fun t => false, fun t => false, fun t => false, fun t => false⟩
def cmp_Compare.ann : Ann := ⟨fun n => [], fun n => none, fun n => none⟩
/-- 'cmp.Compare[string]' -/
def cmp_Compare.sh (a0 a1 : AV) (σ : Store) (Q : AEnd → Store → Prop) : Prop :=
  Do (aPureC Go.Proofs.Try.prog 130 [a0]) fun t8 =>
  Do (aPureC Go.Proofs.Try.prog 130 [a1]) fun t10 =>
  aCond t8
    (aCond t10
      (Q (.ret (.val (.int .i64 0))) σ)
      (Q (.ret (.val (.int .i64 (-1)))) σ))
    (aCond t10
    (Q (.ret (.val (.int .i64 1))) σ)
    (Do (aBin Go.Proofs.Try.prog .lss 9 a0 a1) fun t16 =>
  aCond t16
    (Q (.ret (.val (.int .i64 (-1)))) σ)
    (Do (aBin Go.Proofs.Try.prog .gtr 9 a0 a1) fun t19 =>
  aCond t19
    (Q (.ret (.val (.int .i64 1))) σ)
    (Q (.ret (.val (.int .i64 0))) σ))))
theorem cmp_Compare.eq (a0 a1 : AV) (σ : Store) (Q : AEnd → Store → Prop) : vc (semOf Go.Proofs.Try.prog cmp_Compare.mark) Go.Proofs.Try.f116.ntmps cmp_Compare.ann (bodyOf Go.Proofs.Try.f116) (endK [.tmp 4] Q) (argFr [a0, a1]) σ = cmp_Compare.sh a0 a1 σ Q := by kernel_rfl
theorem cmp_Compare.go {a0 a1 : AV} {σ : Store} {Q : AEnd → Store → Prop} (h : cmp_Compare.sh a0 a1 σ Q) : ACalls Go.Proofs.Try.prog 116 [a0, a1] σ Q :=
  acalls_of_eq [.tmp 4] Go.Proofs.Try.func116 (by kernel_rfl) (by kernel_rfl) (by kernel_rfl) (by kernel_rfl) (cmp_Compare.eq a0 a1 σ Q) h
def entry_byKey.mark : Mark := ⟨fun t => Nat.beq t 9, fun t => false, fun t => Nat.beq t 2 || Nat.beq t 3, fun t => Nat.beq t 6 || Nat.beq t 8, fun t => false⟩
def entry_byKey.ann : Ann := ⟨fun n => [], fun n => none, fun n => none⟩
/-- 'marlstone/entry.byKey' -/
def entry_byKey.sh (a0 a1 : AV) (σ : Store) (Q : AEnd → Store → Prop) : Prop :=
  Do (aFreeze ((a0 : AV)).cells) fun t2 =>
  Do (aFreeze ((a1 : AV)).cells) fun t3 =>
  Do (aFieldAddr 0 1 t2) fun t5 =>
  Do (loadF false 1 t5) fun t6 =>
  Do (aFieldAddr 0 1 t3) fun t7 =>
  Do (loadF false 1 t7) fun t8 =>
  Do (aPureC Go.Proofs.Try.prog 116 [t6, t8]) fun t9 =>
  Q (.ret t9) σ
theorem entry_byKey.eq (a0 a1 : AV) (σ : Store) (Q : AEnd → Store → Prop) : vc (semOf Go.Proofs.Try.prog entry_byKey.mark) Go.Proofs.Try.f94.ntmps entry_byKey.ann (bodyOf Go.Proofs.Try.f94) (endK [.tmp 4] Q) (argFr [a0, a1]) σ = entry_byKey.sh a0 a1 σ Q := by kernel_rfl
theorem entry_byKey.go {a0 a1 : AV} {σ : Store} {Q : AEnd → Store → Prop} (h : entry_byKey.sh a0 a1 σ Q) : ACalls Go.Proofs.Try.prog 94 [a0, a1] σ Q :=
  acalls_of_eq [.tmp 4] Go.Proofs.Try.func94 (by kernel_rfl) (by kernel_rfl) (by kernel_rfl) (by kernel_rfl) (entry_byKey.eq a0 a1 σ Q) h
theorem isNaN_ok (a : List UInt8) : aPure Go.Proofs.Try.prog 130 [S a] (B false) := by
  refine cmp_isNaN.go ?_
  unfold cmp_isNaN.sh
  repeat' (first | with_reducible apply Stp.go | with_reducible refine imp fun _ => ?_ | (with_reducible refine hyp ?_ ?_; first | assumption | exact leftT_mem (by assumption)) | (with_reducible refine need ?_ ?_; first | trivial | omega | exact ⟨by assumption, by omega⟩ | (simp only [List.length_append, List.length_cons, List.length_nil, List.length_map, List.length_take, List.length_drop, List.length_replicate, List.length_set]; omega)) | (with_reducible refine fact ?_ ?_; first | trivial | exact ⟨rfl, rfl⟩ | kernel_rfl) | with_reducible refine choT (by assumption) ?_ | with_reducible refine choF (by assumption) ?_ | with_reducible refine choF' (by assumption) ?_ | (with_reducible refine altT ?_ ?_; first | omega | (simp only [List.length_append, List.length_cons, List.length_nil, List.length_map, List.length_take, List.length_drop, List.length_replicate, List.length_set]; omega)) | with_reducible refine altF ?_ | with_reducible refine all fun _ => ?_ | with_reducible refine both ?_ ?_ | (with_reducible refine choT ?_ ?_; omega) | (with_reducible refine choF ?_ ?_; omega) | with_reducible refine cho (fun _ => ?_) (fun _ => ?_))
  simp
instance (a : List UInt8) : PC Go.Proofs.Try.prog 130 [S a] True (B false) := ⟨fun _ => PC.of (isNaN_ok a)⟩
theorem Compare_ok (a b : List UInt8) : aPure Go.Proofs.Try.prog 116 [S a, S b] (I .i64 (cmpK a b)) := by
  refine cmp_Compare.go ?_
  unfold cmp_Compare.sh
  repeat' (first | with_reducible apply Stp.go | with_reducible refine imp fun _ => ?_ | (with_reducible refine hyp ?_ ?_; first | assumption | exact leftT_mem (by assumption)) | (with_reducible refine need ?_ ?_; first | trivial | omega | exact ⟨by assumption, by omega⟩ | (simp only [List.length_append, List.length_cons, List.length_nil, List.length_map, List.length_take, List.length_drop, List.length_replicate, List.length_set]; omega)) | (with_reducible refine fact ?_ ?_; first | trivial | exact ⟨rfl, rfl⟩ | kernel_rfl) | with_reducible refine choT (by assumption) ?_ | with_reducible refine choF (by assumption) ?_ | with_reducible refine choF' (by assumption) ?_ | (with_reducible refine altT ?_ ?_; first | omega | (simp only [List.length_append, List.length_cons, List.length_nil, List.length_map, List.length_take, List.length_drop, List.length_replicate, List.length_set]; omega)) | with_reducible refine altF ?_ | with_reducible refine all fun _ => ?_ | with_reducible refine both ?_ ?_ | (with_reducible refine choT ?_ ?_; omega) | (with_reducible refine choF ?_ ?_; omega) | with_reducible refine cho (fun _ => ?_) (fun _ => ?_))
  all_goals (refine ⟨?_, by first | rfl | trivial⟩; simp_all [cmpK])
instance (a b : List UInt8) : PC Go.Proofs.Try.prog 116 [S a, S b] True (I .i64 (cmpK a b)) := ⟨fun _ => PC.of (Compare_ok a b)⟩
theorem byKey_ok (a b : En) : aPure Go.Proofs.Try.prog 94 [a.av, b.av] (I .i64 (cmpK a.key b.key)) := by
  refine entry_byKey.go ?_
  unfold entry_byKey.sh
  repeat' (first | with_reducible apply Stp.go | with_reducible refine imp fun _ => ?_ | (with_reducible refine hyp ?_ ?_; first | assumption | exact leftT_mem (by assumption)) | (with_reducible refine need ?_ ?_; first | trivial | omega | exact ⟨by assumption, by omega⟩ | (simp only [List.length_append, List.length_cons, List.length_nil, List.length_map, List.length_take, List.length_drop, List.length_replicate, List.length_set]; omega)) | (with_reducible refine fact ?_ ?_; first | trivial | exact ⟨rfl, rfl⟩ | kernel_rfl) | with_reducible refine choT (by assumption) ?_ | with_reducible refine choF (by assumption) ?_ | with_reducible refine choF' (by assumption) ?_ | (with_reducible refine altT ?_ ?_; first | omega | (simp only [List.length_append, List.length_cons, List.length_nil, List.length_map, List.length_take, List.length_drop, List.length_replicate, List.length_set]; omega)) | with_reducible refine altF ?_ | with_reducible refine all fun _ => ?_ | with_reducible refine both ?_ ?_ | (with_reducible refine choT ?_ ?_; omega) | (with_reducible refine choF ?_ ?_; omega) | with_reducible refine cho (fun _ => ?_) (fun _ => ?_))
  exact ⟨rfl, rfl⟩
instance (a b : En) : PC Go.Proofs.Try.prog 94 [a.av, b.av] True (I .i64 (cmpK a.key b.key)) := ⟨fun _ => PC.of (byKey_ok a b)⟩
def entry_Sorted.mark : Mark := ⟨fun t => Nat.beq t 23, fun t => false, fun t => false, fun t => Nat.beq t 17 || Nat.beq t 22, fun t => false⟩
def entry_Sorted.ann : Ann := ⟨fun n => bif Nat.beq n 2 then [0, 10, 11] else [], fun n => none, fun n => none⟩
/-- 'marlstone/entry.Sorted' -/
def entry_Sorted.sh (a0 : AV) (σ : Store) (Q : AEnd → Store → Prop) : Prop :=
  Do (aBuiltin Go.Proofs.Try.prog .len #[22] [a0]) fun t6 =>
  Do (aBuiltin Go.Proofs.Try.prog .max #[3, 3] [t6, (.val (.int .i64 1))]) fun t7 =>
  Do (aBin Go.Proofs.Try.prog .sub 3 t7 (.val (.int .i64 1))) fun t8 =>
  Do (aSlice .slice 4 a0 none (some t8) none) fun t9 =>
  Do (aBuiltin Go.Proofs.Try.prog .len #[22] [t9]) fun t10 =>
  aLoop (fun go vs σ =>
    At vs 0 fun s0 => At vs 1 fun s10 => At vs 2 fun s11 => Do (aBin Go.Proofs.Try.prog .lss 3 s11 s10) fun t12 =>
    aCond t12
      (Do (aIndexAddr .slice 4 s0 s11) fun t16 =>
    Do (loadF true 4 t16) fun t17 =>
    Do (aBin Go.Proofs.Try.prog .add 3 s11 (.val (.int .i64 1))) fun t20 =>
    Do (aIndexAddr .slice 4 s0 t20) fun t21 =>
    Do (loadF true 4 t21) fun t22 =>
    Do (aPureC Go.Proofs.Try.prog 94 [t17, t22]) fun t23 =>
    Do (aBin Go.Proofs.Try.prog .geq 3 t23 (.val (.int .i64 0))) fun t24 =>
    aCond t24
      (Q (.ret (.val (.bool false))) σ)
      (Do (aBin Go.Proofs.Try.prog .add 3 s11 (.val (.int .i64 1))) fun t25 =>
    go [s0, s10, t25] σ))
      (Q (.ret (.val (.bool true))) σ))
    [a0, t10, (.val (.int .i64 0))] σ
theorem entry_Sorted.eq (a0 : AV) (σ : Store) (Q : AEnd → Store → Prop) : vc (semOf Go.Proofs.Try.prog entry_Sorted.mark) Go.Proofs.Try.f53.ntmps entry_Sorted.ann (bodyOf Go.Proofs.Try.f53) (endK [.tmp 2] Q) (argFr [a0]) σ = entry_Sorted.sh a0 σ Q := by kernel_rfl
theorem entry_Sorted.go {a0 : AV} {σ : Store} {Q : AEnd → Store → Prop} (h : entry_Sorted.sh a0 σ Q) : ACalls Go.Proofs.Try.prog 53 [a0] σ Q :=
  acalls_of_eq [.tmp 2] Go.Proofs.Try.func53 (by kernel_rfl) (by kernel_rfl) (by kernel_rfl) (by kernel_rfl) (entry_Sorted.eq a0 σ Q) h
def ref03_Sorted.mark : Mark := ⟨fun t => false, fun t => false, fun t => false, fun t => Nat.beq t 15 || Nat.beq t 20, fun t => false⟩
def ref03_Sorted.ann : Ann := ⟨fun n => bif Nat.beq n 2 then [0, 3] else [], fun n => none, fun n => none⟩
/-- 'marlstone/marlstoneref03.Sorted' -/
def ref03_Sorted.sh (a0 : AV) (σ : Store) (Q : AEnd → Store → Prop) : Prop :=
  aLoop (fun go vs σ =>
    At vs 0 fun s0 => At vs 1 fun s3 => Do (aBuiltin Go.Proofs.Try.prog .len #[22] [s0]) fun t6 =>
    Do (aBin Go.Proofs.Try.prog .lss 3 s3 t6) fun t7 =>
    aCond t7
      (Do (aBin Go.Proofs.Try.prog .sub 3 s3 (.val (.int .i64 1))) fun t12 =>
    Do (aIndexAddr .slice 4 s0 t12) fun t13 =>
    Do (aFieldAddr 0 1 t13) fun t14 =>
    Do (loadF false 1 t14) fun t15 =>
    Do (aIndexAddr .slice 4 s0 s3) fun t18 =>
    Do (aFieldAddr 0 1 t18) fun t19 =>
    Do (loadF false 1 t19) fun t20 =>
    Do (aBin Go.Proofs.Try.prog .geq 9 t15 t20) fun t21 =>
    aCond t21
      (Q (.ret (.val (.bool false))) σ)
      (Do (aBin Go.Proofs.Try.prog .add 3 s3 (.val (.int .i64 1))) fun t9 =>
    go [s0, t9] σ))
      (Q (.ret (.val (.bool true))) σ))
    [a0, (.val (.int .i64 1))] σ
theorem ref03_Sorted.eq (a0 : AV) (σ : Store) (Q : AEnd → Store → Prop) : vc (semOf Go.Proofs.Try.prog ref03_Sorted.mark) Go.Proofs.Try.f59.ntmps ref03_Sorted.ann (bodyOf Go.Proofs.Try.f59) (endK [.tmp 2] Q) (argFr [a0]) σ = ref03_Sorted.sh a0 σ Q := by kernel_rfl
theorem ref03_Sorted.go {a0 : AV} {σ : Store} {Q : AEnd → Store → Prop} (h : ref03_Sorted.sh a0 σ Q) : ACalls Go.Proofs.Try.prog 59 [a0] σ Q :=
  acalls_of_eq [.tmp 2] Go.Proofs.Try.func59 (by kernel_rfl) (by kernel_rfl) (by kernel_rfl) (by kernel_rfl) (ref03_Sorted.eq a0 σ Q) h
theorem Sorted_ok (l : List En) (m : SM) (hl : l.length ≤ 1000000000000) : aPure Go.Proofs.Try.prog 53 [.lst 4 (l.map En.av) m] (B (sorted l)) := by
  refine entry_Sorted.go ?_
  unfold entry_Sorted.sh
  repeat' (first | with_reducible apply Stp.go | with_reducible refine imp fun _ => ?_ | (with_reducible refine hyp ?_ ?_; first | assumption | exact leftT_mem (by assumption)) | (with_reducible refine need ?_ ?_; first | trivial | omega | exact ⟨by assumption, by omega⟩ | (simp only [List.length_append, List.length_cons, List.length_nil, List.length_map, List.length_take, List.length_drop, List.length_replicate, List.length_set]; omega)) | (with_reducible refine fact ?_ ?_; first | trivial | exact ⟨rfl, rfl⟩ | kernel_rfl) | with_reducible refine choT (by assumption) ?_ | with_reducible refine choF (by assumption) ?_ | with_reducible refine choF' (by assumption) ?_ | (with_reducible refine altT ?_ ?_; first | omega | (simp only [List.length_append, List.length_cons, List.length_nil, List.length_map, List.length_take, List.length_drop, List.length_replicate, List.length_set]; omega)) | with_reducible refine altF ?_ | with_reducible refine all fun _ => ?_ | with_reducible refine both ?_ ?_ | (with_reducible refine choT ?_ ?_; omega) | (with_reducible refine choF ?_ ?_; omega) | with_reducible refine cho (fun _ => ?_) (fun _ => ?_))
  refine loopI (β := Nat) (fun i => i ≤ l.length - 1 ∧ sorted l = sorted (l.drop i)) (fun i => [.lst 4 (l.map En.av) m, I .i64 ((l.length - 1 : Nat) : Int), I .i64 (i : Nat)]) (fun _ => []) (fun i => l.length - i) 0 ⟨by omega, rfl⟩ ?_ ?_
  · have e : (l.take (max l.length 1 - 1)).length = l.length - 1 := by rw [List.length_take]; omega
    rw [e]
    exact Sub.refl _ _
  rintro i ⟨hi, hs⟩
  repeat' (first | with_reducible apply Stp.go | with_reducible refine imp fun _ => ?_ | (with_reducible refine hyp ?_ ?_; first | assumption | exact leftT_mem (by assumption)) | (with_reducible refine need ?_ ?_; first | trivial | omega | exact ⟨by assumption, by omega⟩ | (simp only [List.length_append, List.length_cons, List.length_nil, List.length_map, List.length_take, List.length_drop, List.length_replicate, List.length_set]; omega)) | (with_reducible refine fact ?_ ?_; first | trivial | exact ⟨rfl, rfl⟩ | kernel_rfl) | with_reducible refine choT (by assumption) ?_ | with_reducible refine choF (by assumption) ?_ | with_reducible refine choF' (by assumption) ?_ | (with_reducible refine altT ?_ ?_; first | omega | (simp only [List.length_append, List.length_cons, List.length_nil, List.length_map, List.length_take, List.length_drop, List.length_replicate, List.length_set]; omega)) | with_reducible refine altF ?_ | with_reducible refine all fun _ => ?_ | with_reducible refine both ?_ ?_ | (with_reducible refine choT ?_ ?_; omega) | (with_reducible refine choF ?_ ?_; omega) | with_reducible refine cho (fun _ => ?_) (fun _ => ?_))
  · rename_i h1 h
    rw [cmpK_neg] at h
    rw [hs, sorted_step (by omega), h]
    exact ⟨rfl, rfl⟩
  · rename_i h1 h
    rw [cmpK_neg, Bool.not_eq_false] at h
    refine again (i + 1) (by omega) ⟨by omega, ?_⟩ (Sub.refl _ _)
    rw [hs, sorted_step (by omega), h, Bool.true_and]
  · rw [hs, sorted_end (by omega)]
    exact ⟨rfl, rfl⟩
instance {a : AV} {l : List En} {m : SM} [h : IsL a En.av 4 l m] : PC Go.Proofs.Try.prog 53 [a] (l.length ≤ 1000000000000) (B (sorted l)) := ⟨fun hl => ⟨[.lst 4 (l.map En.av) m], ⟨h.sub, trivial⟩, Sorted_ok l m hl⟩⟩
theorem ref03_Sorted_ok (l : List En) (m : SM) (hl : l.length ≤ 1000000000000) : aPure Go.Proofs.Try.prog 59 [.lst 4 (l.map En.av) m] (B (sorted l)) := by
  refine ref03_Sorted.go ?_
  unfold ref03_Sorted.sh
  refine loopI (β := Nat) (fun i => i ≤ l.length ∧ sorted l = sorted (l.drop i)) (fun i => [.lst 4 (l.map En.av) m, I .i64 ((i + 1 : Nat) : Int)]) (fun _ => []) (fun i => l.length - i) 0 ⟨by omega, rfl⟩ (Sub.refl _ _) ?_
  rintro i ⟨hi, hs⟩
  repeat' (first | with_reducible apply Stp.go | with_reducible refine imp fun _ => ?_ | (with_reducible refine hyp ?_ ?_; first | assumption | exact leftT_mem (by assumption)) | (with_reducible refine need ?_ ?_; first | trivial | omega | exact ⟨by assumption, by omega⟩ | (simp only [List.length_append, List.length_cons, List.length_nil, List.length_map, List.length_take, List.length_drop, List.length_replicate, List.length_set]; omega)) | (with_reducible refine fact ?_ ?_; first | trivial | exact ⟨rfl, rfl⟩ | kernel_rfl) | with_reducible refine choT (by assumption) ?_ | with_reducible refine choF (by assumption) ?_ | with_reducible refine choF' (by assumption) ?_ | (with_reducible refine altT ?_ ?_; first | omega | (simp only [List.length_append, List.length_cons, List.length_nil, List.length_map, List.length_take, List.length_drop, List.length_replicate, List.length_set]; omega)) | with_reducible refine altF ?_ | with_reducible refine all fun _ => ?_ | with_reducible refine both ?_ ?_ | (with_reducible refine choT ?_ ?_; omega) | (with_reducible refine choF ?_ ?_; omega) | with_reducible refine cho (fun _ => ?_) (fun _ => ?_))
  · rename_i h1 h
    rw [Nat.add_sub_cancel] at h
    refine again (i + 1) (by omega) ⟨by omega, ?_⟩ (Sub.refl _ _)
    rw [hs, sorted_step (by omega), show lt _ _ = true from h, Bool.true_and]
  · rename_i h1 h
    rw [Nat.add_sub_cancel] at h
    rw [hs, sorted_step (by omega), show lt _ _ = false by simpa using h]
    exact ⟨rfl, rfl⟩
  · rw [hs, sorted_end (by omega)]
    exact ⟨rfl, rfl⟩
instance {a : AV} {l : List En} {m : SM} [h : IsL a En.av 4 l m] : PC Go.Proofs.Try.prog 59 [a] (l.length ≤ 1000000000000) (B (sorted l)) := ⟨fun hl => ⟨[.lst 4 (l.map En.av) m], ⟨h.sub, trivial⟩, ref03_Sorted_ok l m hl⟩⟩
end Go.Ab
