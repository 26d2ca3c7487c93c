/- Functions of layers 3 and 4: what is right and fit, what is the same; an entry's bytes. -/
import Derived.Test.YtobhbepiaibceaaF2
set_option linter.unusedVariables false
set_option linter.unusedSimpArgs false
namespace Go.Ab
def ref03_Right.mark : Mark := ⟨fun t => false, fun t => false, fun t => Nat.beq t 1, fun t => Nat.beq t 4 || Nat.beq t 9 || Nat.beq t 15 || Nat.beq t 21 || Nat.beq t 25 || Nat.beq t 31 || Nat.beq t 36, fun t => false⟩
def ref03_Right.ann : Ann := ⟨fun n => [], fun n => none, fun n => none⟩
/-- 'marlstone/marlstoneref03.Right' -/
def ref03_Right.sh (a0 : AV) (σ : Store) (Q : AEnd → Store → Prop) : Prop :=
  Do (aFreeze ((a0 : AV)).cells) fun t1 =>
  Do (aFieldAddr 0 1 t1) fun t3 =>
  Do (loadF false 1 t3) fun t4 =>
  Do (aBuiltin Go.Proofs.Try.prog .len #[9] [t4]) fun t5 =>
  Do (aBin Go.Proofs.Try.prog .geq 3 t5 (.val (.int .i64 1))) fun t6 =>
  Do (aGuard t6 true (aFieldAddr 0 1 t1)) fun t8 =>
  Do (aGuard t6 true (loadF false 1 t8)) fun t9 =>
  Do (aGuard t6 true (aBuiltin Go.Proofs.Try.prog .len #[9] [t9])) fun t10 =>
  Do (aGuard t6 true (aBin Go.Proofs.Try.prog .leq 3 t10 (.val (.int .i64 128)))) fun t11 =>
  Do (aPick t6 t11 (.val (.bool false))) fun t12 =>
  Do (aGuard t12 true (aFieldAddr 1 1 t1)) fun t14 =>
  Do (aGuard t12 true (loadF false 1 t14)) fun t15 =>
  Do (aGuard t12 true (aBuiltin Go.Proofs.Try.prog .len #[9] [t15])) fun t16 =>
  Do (aGuard t12 true (aBin Go.Proofs.Try.prog .leq 3 t16 (.val (.int .i64 1024)))) fun t17 =>
  Do (aPick t12 t17 (.val (.bool false))) fun t18 =>
  Do (aGuard t18 true (aFieldAddr 2 1 t1)) fun t20 =>
  Do (aGuard t18 true (loadF false 1 t20)) fun t21 =>
  Do (aGuard t18 true (aUn Go.Proofs.Try.prog .not t21)) fun t22 =>
  Do (aGuard t18 true (aIs t22)) fun t23 =>
  Do (aGuard t23 false (aFieldAddr 1 1 t1)) fun t24 =>
  Do (aGuard t23 false (loadF false 1 t24)) fun t25 =>
  Do (aGuard t23 false (aBin Go.Proofs.Try.prog .eql 9 t25 (.val (.string ⟨#[]⟩)))) fun t26 =>
  Do (aGuard t18 true (aPick t23 (.val (.bool true)) t26)) fun t27 =>
  Do (aPick t18 t27 (.val (.bool false))) fun t28 =>
  Do (aGuard t28 true (aFieldAddr 3 1 t1)) fun t30 =>
  Do (aGuard t28 true (loadF false 1 t30)) fun t31 =>
  Do (aGuard t28 true (aBin Go.Proofs.Try.prog .geq 3 t31 (.val (.int .i64 1)))) fun t32 =>
  Do (aPick t28 t32 (.val (.bool false))) fun t33 =>
  Do (aGuard t33 true (aFieldAddr 3 1 t1)) fun t35 =>
  Do (aGuard t33 true (loadF false 1 t35)) fun t36 =>
  Do (aGuard t33 true (aBin Go.Proofs.Try.prog .leq 3 t36 (.val (.int .i64 1099511627776)))) fun t37 =>
  Do (aPick t33 t37 (.val (.bool false))) fun t38 =>
  Q (.ret t38) σ
theorem ref03_Right.eq (a0 : AV) (σ : Store) (Q : AEnd → Store → Prop) : vc (semOf Go.Proofs.Try.prog ref03_Right.mark) Go.Proofs.Try.f87.ntmps ref03_Right.ann (bodyOf Go.Proofs.Try.f87) (endK [.tmp 2] Q) (argFr [a0]) σ = ref03_Right.sh a0 σ Q := by kernel_rfl
theorem ref03_Right.go {a0 : AV} {σ : Store} {Q : AEnd → Store → Prop} (h : ref03_Right.sh a0 σ Q) : ACalls Go.Proofs.Try.prog 87 [a0] σ Q :=
  acalls_of_eq [.tmp 2] Go.Proofs.Try.func87 (by kernel_rfl) (by kernel_rfl) (by kernel_rfl) (by kernel_rfl) (ref03_Right.eq a0 σ Q) h
def slices_IndexFunc.mark : Mark := ⟨fun t => Nat.beq t 16, fun t => false, fun t => false, fun t => Nat.beq t 15, fun t => false⟩
def slices_IndexFunc.ann : Ann := ⟨fun n => bif Nat.beq n 2 then [0, 1, 7, 8] else [], fun n => none, fun n => none⟩
/-- 'slices.IndexFunc[[]marlstone/api.Entry,marlstone/api.Entry]' -/
def slices_IndexFunc.sh (a0 a1 : AV) (σ : Store) (Q : AEnd → Store → Prop) : Prop :=
  Do (aBuiltin Go.Proofs.Try.prog .len #[22] [a0]) fun t7 =>
  aLoop (fun go vs σ =>
    At vs 0 fun s0 => At vs 1 fun s1 => At vs 2 fun s7 => At vs 3 fun s8 => Do (aBin Go.Proofs.Try.prog .lss 3 s8 s7) fun t9 =>
    aCond t9
      (Do (aIndexAddr .slice 4 s0 s8) fun t14 =>
    Do (loadF true 4 t14) fun t15 =>
    Do (aPureV Go.Proofs.Try.prog s1 [t15]) fun t16 =>
    aCond t16
      (Q (.ret s8) σ)
      (Do (aBin Go.Proofs.Try.prog .add 3 s8 (.val (.int .i64 1))) fun t18 =>
    go [s0, s1, s7, t18] σ))
      (Q (.ret (.val (.int .i64 (-1)))) σ))
    [a0, a1, t7, (.val (.int .i64 0))] σ
theorem slices_IndexFunc.eq (a0 a1 : AV) (σ : Store) (Q : AEnd → Store → Prop) : vc (semOf Go.Proofs.Try.prog slices_IndexFunc.mark) Go.Proofs.Try.f96.ntmps slices_IndexFunc.ann (bodyOf Go.Proofs.Try.f96) (endK [.tmp 4] Q) (argFr [a0, a1]) σ = slices_IndexFunc.sh a0 a1 σ Q := by kernel_rfl
theorem slices_IndexFunc.go {a0 a1 : AV} {σ : Store} {Q : AEnd → Store → Prop} (h : slices_IndexFunc.sh a0 a1 σ Q) : ACalls Go.Proofs.Try.prog 96 [a0, a1] σ Q :=
  acalls_of_eq [.tmp 4] Go.Proofs.Try.func96 (by kernel_rfl) (by kernel_rfl) (by kernel_rfl) (by kernel_rfl) (slices_IndexFunc.eq a0 a1 σ Q) h
def slices_ContainsFunc.mark : Mark := ⟨fun t => Nat.beq t 7, fun t => false, fun t => false, fun t => false, fun t => false⟩
def slices_ContainsFunc.ann : Ann := ⟨fun n => [], fun n => none, fun n => none⟩
/-- 'slices.ContainsFunc[[]marlstone/api.Entry,marlstone/api.Entry]' -/
def slices_ContainsFunc.sh (a0 a1 : AV) (σ : Store) (Q : AEnd → Store → Prop) : Prop :=
  Do (aPureC Go.Proofs.Try.prog 96 [a0, a1]) fun t7 =>
  Do (aBin Go.Proofs.Try.prog .geq 3 t7 (.val (.int .i64 0))) fun t8 =>
  Q (.ret t8) σ
theorem slices_ContainsFunc.eq (a0 a1 : AV) (σ : Store) (Q : AEnd → Store → Prop) : vc (semOf Go.Proofs.Try.prog slices_ContainsFunc.mark) Go.Proofs.Try.f81.ntmps slices_ContainsFunc.ann (bodyOf Go.Proofs.Try.f81) (endK [.tmp 4] Q) (argFr [a0, a1]) σ = slices_ContainsFunc.sh a0 a1 σ Q := by kernel_rfl
theorem slices_ContainsFunc.go {a0 a1 : AV} {σ : Store} {Q : AEnd → Store → Prop} (h : slices_ContainsFunc.sh a0 a1 σ Q) : ACalls Go.Proofs.Try.prog 81 [a0, a1] σ Q :=
  acalls_of_eq [.tmp 4] Go.Proofs.Try.func81 (by kernel_rfl) (by kernel_rfl) (by kernel_rfl) (by kernel_rfl) (slices_ContainsFunc.eq a0 a1 σ Q) h
def ref04_Fit.mark : Mark := ⟨fun t => Nat.beq t 15 || Nat.beq t 28, fun t => false, fun t => false, fun t => Nat.beq t 27, fun t => false⟩
def ref04_Fit.ann : Ann := ⟨fun n => bif Nat.beq n 4 then [0, 3] else [], fun n => none, fun n => none⟩
/-- 'marlstone/marlstoneref04.Fit' -/
def ref04_Fit.sh (a0 : AV) (σ : Store) (Q : AEnd → Store → Prop) : Prop :=
  Do (aBuiltin Go.Proofs.Try.prog .len #[22] [a0]) fun t6 =>
  Do (aBin Go.Proofs.Try.prog .lss 3 t6 (.val (.int .i64 1))) fun t7 =>
  Do (aGuard t7 false (aIs a0)) fun t9 =>
  Do (aGuard t7 false (aBuiltin Go.Proofs.Try.prog .len #[22] [t9])) fun t10 =>
  Do (aGuard t7 false (aBin Go.Proofs.Try.prog .gtr 3 t10 (.val (.int .i64 64)))) fun t11 =>
  Do (aPick t7 (.val (.bool true)) t11) fun t12 =>
  Do (aGuard t12 false (aIs a0)) fun t14 =>
  Do (aGuard t12 false (aPureC Go.Proofs.Try.prog 59 [t14])) fun t15 =>
  Do (aGuard t12 false (aUn Go.Proofs.Try.prog .not t15)) fun t16 =>
  Do (aPick t12 (.val (.bool true)) t16) fun t17 =>
  aCond t17
    (Q (.ret (.val (.bool false))) σ)
    (aLoop (fun go vs σ =>
    At vs 0 fun s0 => At vs 1 fun s3 => Do (aBuiltin Go.Proofs.Try.prog .len #[22] [s0]) fun t20 =>
    Do (aBin Go.Proofs.Try.prog .lss 3 s3 t20) fun t21 =>
    aCond t21
      (Do (aIndexAddr .slice 4 s0 s3) fun t26 =>
    Do (loadF true 4 t26) fun t27 =>
    Do (aPureC Go.Proofs.Try.prog 87 [t27]) fun t28 =>
    Do (aUn Go.Proofs.Try.prog .not t28) fun t30 =>
    aCond t30
      (Q (.ret (.val (.bool false))) σ)
      (Do (aBin Go.Proofs.Try.prog .add 3 s3 (.val (.int .i64 1))) fun t23 =>
    go [s0, t23] σ))
      (Q (.ret (.val (.bool true))) σ))
    [a0, (.val (.int .i64 0))] σ)
theorem ref04_Fit.eq (a0 : AV) (σ : Store) (Q : AEnd → Store → Prop) : vc (semOf Go.Proofs.Try.prog ref04_Fit.mark) Go.Proofs.Try.f39.ntmps ref04_Fit.ann (bodyOf Go.Proofs.Try.f39) (endK [.tmp 2] Q) (argFr [a0]) σ = ref04_Fit.sh a0 σ Q := by kernel_rfl
theorem ref04_Fit.go {a0 : AV} {σ : Store} {Q : AEnd → Store → Prop} (h : ref04_Fit.sh a0 σ Q) : ACalls Go.Proofs.Try.prog 39 [a0] σ Q :=
  acalls_of_eq [.tmp 2] Go.Proofs.Try.func39 (by kernel_rfl) (by kernel_rfl) (by kernel_rfl) (by kernel_rfl) (ref04_Fit.eq a0 σ Q) h
theorem ref03_Right_ok (e : En) : aPure Go.Proofs.Try.prog 87 [e.av] (B (right e)) := by
  refine ref03_Right.go ?_
  unfold ref03_Right.sh
  repeat' (first | with_reducible apply Stp.go | with_reducible refine imp fun _ => ?_ | (with_reducible refine hyp ?_ ?_; first | assumption | exact leftT_mem (by assumption)) | (with_reducible refine need ?_ ?_; first | trivial | omega | exact ⟨by assumption, by omega⟩ | (simp only [List.length_append, List.length_cons, List.length_nil, List.length_map, List.length_take, List.length_drop, List.length_replicate, List.length_set]; omega)) | (with_reducible refine fact ?_ ?_; first | trivial | exact ⟨rfl, rfl⟩ | kernel_rfl) | with_reducible refine choT (by assumption) ?_ | with_reducible refine choF (by assumption) ?_ | with_reducible refine choF' (by assumption) ?_ | (with_reducible refine altT ?_ ?_; first | omega | (simp only [List.length_append, List.length_cons, List.length_nil, List.length_map, List.length_take, List.length_drop, List.length_replicate, List.length_set]; omega)) | with_reducible refine altF ?_ | with_reducible refine all fun _ => ?_ | with_reducible refine both ?_ ?_ | (with_reducible refine choT ?_ ?_; omega) | (with_reducible refine choF ?_ ?_; omega) | with_reducible refine cho (fun _ => ?_) (fun _ => ?_))
  all_goals
    refine ⟨?_, rfl⟩
    have hk : decide (e.key ≠ []) = decide (1 ≤ e.key.length) := by
      cases e.key with
      | nil => rfl
      | cons a l => simp
    unfold right
    rw [hk]
    simp_all <;> omega
instance (e : En) : PC Go.Proofs.Try.prog 87 [e.av] True (B (right e)) := ⟨fun _ => PC.of (ref03_Right_ok e)⟩
/-- A function value that is told of one entry. -/
class Pred (P : Program) (g : AV) (p : outParam (En → Bool)) : Prop where
  h : ∀ e : En, ∃ f a b args1, calleeOf g = some (f, a, b) ∧ SubVs (a ++ [e.av] ++ b) args1 ∧ aPure P f args1 (B (p e))
theorem Pred.pure {P : Program} {g : AV} {p : En → Bool} (h : Pred P g p) (e : En) : aPureV P g [e.av] (B (p e)) := by
  obtain ⟨f, a, b, args1, h1, h2, h3⟩ := h.h e
  unfold aPureV
  rw [h1]
  exact .inl ⟨args1, h2, h3⟩
instance predV {f : FuncId} {u : En → Bool} [h : ∀ e : En, PC Go.Proofs.Try.prog f [e.av] True (B (u e))] : Pred Go.Proofs.Try.prog (.val (.func (.func f) #[] #[])) u := ⟨fun e => by
  obtain ⟨a1, h1, h2⟩ := (h e).ct trivial
  exact ⟨f, [], [], a1, rfl, by simpa using h1, h2⟩⟩
theorem IndexFunc_ok (l : List En) (m : SM) (hl : l.length ≤ 1000000000000) (g : AV) (p : En → Bool) (hg : Pred Go.Proofs.Try.prog g p) :
    aPure Go.Proofs.Try.prog 96 [.lst 4 (l.map En.av) m, g] (I .i64 (idx p l)) := by
  refine slices_IndexFunc.go ?_
  unfold slices_IndexFunc.sh
  have step : ∀ (e : En) (K : AV → Prop), K (B (p e)) → Do (aPureV Go.Proofs.Try.prog g [e.av]) K := fun e K hK => ⟨_, hg.pure e, hK⟩
  repeat' (first | with_reducible apply Stp.go | with_reducible refine imp fun _ => ?_ | (with_reducible refine hyp ?_ ?_; first | assumption | exact leftT_mem (by assumption)) | (with_reducible refine need ?_ ?_; first | trivial | omega | exact ⟨by assumption, by omega⟩ | (simp only [List.length_append, List.length_cons, List.length_nil, List.length_map, List.length_take, List.length_drop, List.length_replicate, List.length_set]; omega)) | (with_reducible refine fact ?_ ?_; first | trivial | exact ⟨rfl, rfl⟩ | kernel_rfl) | with_reducible refine choT (by assumption) ?_ | with_reducible refine choF (by assumption) ?_ | with_reducible refine choF' (by assumption) ?_ | (with_reducible refine altT ?_ ?_; first | omega | (simp only [List.length_append, List.length_cons, List.length_nil, List.length_map, List.length_take, List.length_drop, List.length_replicate, List.length_set]; omega)) | with_reducible refine altF ?_ | with_reducible refine all fun _ => ?_ | with_reducible refine both ?_ ?_ | (with_reducible refine choT ?_ ?_; omega) | (with_reducible refine choF ?_ ?_; omega) | with_reducible refine cho (fun _ => ?_) (fun _ => ?_))
  refine loopI (β := Nat) (fun i => i ≤ l.length ∧ idx p l = (if idx p (l.drop i) < 0 then -1 else idx p (l.drop i) + i)) (fun i => [.lst 4 (l.map En.av) m, g, I .i64 (l.length : Nat), I .i64 (i : Nat)]) (fun _ => []) (fun i => l.length - i) 0 ⟨by omega, ?_⟩ (Sub.refl _ _) ?_
  · have := idx_lt p l
    simp only [List.drop_zero]
    split <;> omega
  rintro i ⟨hi, hs⟩
  repeat' (first | with_reducible apply Stp.go | with_reducible refine imp fun _ => ?_ | (with_reducible refine hyp ?_ ?_; first | assumption | exact leftT_mem (by assumption)) | (with_reducible refine need ?_ ?_; first | trivial | omega | exact ⟨by assumption, by omega⟩ | (simp only [List.length_append, List.length_cons, List.length_nil, List.length_map, List.length_take, List.length_drop, List.length_replicate, List.length_set]; omega)) | (with_reducible refine fact ?_ ?_; first | trivial | exact ⟨rfl, rfl⟩ | kernel_rfl) | with_reducible refine choT (by assumption) ?_ | with_reducible refine choF (by assumption) ?_ | with_reducible refine choF' (by assumption) ?_ | (with_reducible refine altT ?_ ?_; first | omega | (simp only [List.length_append, List.length_cons, List.length_nil, List.length_map, List.length_take, List.length_drop, List.length_replicate, List.length_set]; omega)) | with_reducible refine altF ?_ | with_reducible refine all fun _ => ?_ | with_reducible refine both ?_ ?_ | (with_reducible refine choT ?_ ?_; omega) | (with_reducible refine choF ?_ ?_; omega) | with_reducible refine cho (fun _ => ?_) (fun _ => ?_))
  · refine step _ _ ?_
    rename_i h1
    repeat' (first | with_reducible apply Stp.go | with_reducible refine imp fun _ => ?_ | (with_reducible refine hyp ?_ ?_; first | assumption | exact leftT_mem (by assumption)) | (with_reducible refine need ?_ ?_; first | trivial | omega | exact ⟨by assumption, by omega⟩ | (simp only [List.length_append, List.length_cons, List.length_nil, List.length_map, List.length_take, List.length_drop, List.length_replicate, List.length_set]; omega)) | (with_reducible refine fact ?_ ?_; first | trivial | exact ⟨rfl, rfl⟩ | kernel_rfl) | with_reducible refine choT (by assumption) ?_ | with_reducible refine choF (by assumption) ?_ | with_reducible refine choF' (by assumption) ?_ | (with_reducible refine altT ?_ ?_; first | omega | (simp only [List.length_append, List.length_cons, List.length_nil, List.length_map, List.length_take, List.length_drop, List.length_replicate, List.length_set]; omega)) | with_reducible refine altF ?_ | with_reducible refine all fun _ => ?_ | with_reducible refine both ?_ ?_ | (with_reducible refine choT ?_ ?_; omega) | (with_reducible refine choF ?_ ?_; omega) | with_reducible refine cho (fun _ => ?_) (fun _ => ?_))
    · rename_i h
      rw [drop_cons (show i < l.length by omega)] at hs
      simp only [idx, h, if_true] at hs
      refine ⟨?_, rfl⟩
      rw [hs]
      simp
    · rename_i h
      refine again (i + 1) (by omega) ⟨by omega, ?_⟩ (Sub.refl _ _)
      rw [hs, drop_cons (show i < l.length by omega)]
      have := idx_lt p (l.drop (i + 1))
      simp only [idx, h, Bool.false_eq_true, if_false]
      split <;> split <;> rename_i h2 h3 <;> (try split at h2) <;> omega
  · have : l.drop i = [] := List.drop_of_length_le (by omega)
    rw [hs, this]
    exact ⟨rfl, rfl⟩
instance {a g : AV} {l : List En} {m : SM} {p : En → Bool} [h : IsL a En.av 4 l m] [hg : Pred Go.Proofs.Try.prog g p] : PC Go.Proofs.Try.prog 96 [a, g] (l.length ≤ 1000000000000) (I .i64 (idx p l)) :=
  ⟨fun hl => ⟨[.lst 4 (l.map En.av) m, g], ⟨h.sub, SubVs.refl _⟩, IndexFunc_ok l m hl g p hg⟩⟩
theorem ContainsFunc_ok (l : List En) (m : SM) (hl : l.length ≤ 1000000000000) (g : AV) (p : En → Bool) (hg : Pred Go.Proofs.Try.prog g p) :
    aPure Go.Proofs.Try.prog 81 [.lst 4 (l.map En.av) m, g] (B (l.any p)) := by
  refine slices_ContainsFunc.go ?_
  unfold slices_ContainsFunc.sh
  repeat' (first | with_reducible apply Stp.go | with_reducible refine imp fun _ => ?_ | (with_reducible refine hyp ?_ ?_; first | assumption | exact leftT_mem (by assumption)) | (with_reducible refine need ?_ ?_; first | trivial | omega | exact ⟨by assumption, by omega⟩ | (simp only [List.length_append, List.length_cons, List.length_nil, List.length_map, List.length_take, List.length_drop, List.length_replicate, List.length_set]; omega)) | (with_reducible refine fact ?_ ?_; first | trivial | exact ⟨rfl, rfl⟩ | kernel_rfl) | with_reducible refine choT (by assumption) ?_ | with_reducible refine choF (by assumption) ?_ | with_reducible refine choF' (by assumption) ?_ | (with_reducible refine altT ?_ ?_; first | omega | (simp only [List.length_append, List.length_cons, List.length_nil, List.length_map, List.length_take, List.length_drop, List.length_replicate, List.length_set]; omega)) | with_reducible refine altF ?_ | with_reducible refine all fun _ => ?_ | with_reducible refine both ?_ ?_ | (with_reducible refine choT ?_ ?_; omega) | (with_reducible refine choF ?_ ?_; omega) | with_reducible refine cho (fun _ => ?_) (fun _ => ?_))
  have e : decide (0 ≤ idx p l) = l.any p := by rw [Bool.eq_iff_iff]; simpa using idx_any p l
  rw [e]
  exact ⟨rfl, rfl⟩
instance {a g : AV} {l : List En} {m : SM} {p : En → Bool} [h : IsL a En.av 4 l m] [hg : Pred Go.Proofs.Try.prog g p] : PC Go.Proofs.Try.prog 81 [a, g] (l.length ≤ 1000000000000) (B (l.any p)) :=
  ⟨fun hl => ⟨[.lst 4 (l.map En.av) m, g], ⟨h.sub, SubVs.refl _⟩, ContainsFunc_ok l m hl g p hg⟩⟩
theorem all_right (l : List En) : (!l.any fun e => !right e) = l.all right := by
  rw [List.any_eq_not_all_not]
  simp
theorem Fit_ok (l : List En) (m : SM) (hl : l.length ≤ 1000000000000) : aPure Go.Proofs.Try.prog 39 [.lst 4 (l.map En.av) m] (B (fit l)) := by
  refine ref04_Fit.go ?_
  unfold ref04_Fit.sh
  repeat' (first | with_reducible apply Stp.go | with_reducible refine imp fun _ => ?_ | (with_reducible refine hyp ?_ ?_; first | assumption | exact leftT_mem (by assumption)) | (with_reducible refine need ?_ ?_; first | trivial | omega | exact ⟨by assumption, by omega⟩ | (simp only [List.length_append, List.length_cons, List.length_nil, List.length_map, List.length_take, List.length_drop, List.length_replicate, List.length_set]; omega)) | (with_reducible refine fact ?_ ?_; first | trivial | exact ⟨rfl, rfl⟩ | kernel_rfl) | with_reducible refine choT (by assumption) ?_ | with_reducible refine choF (by assumption) ?_ | with_reducible refine choF' (by assumption) ?_ | (with_reducible refine altT ?_ ?_; first | omega | (simp only [List.length_append, List.length_cons, List.length_nil, List.length_map, List.length_take, List.length_drop, List.length_replicate, List.length_set]; omega)) | with_reducible refine altF ?_ | with_reducible refine all fun _ => ?_ | with_reducible refine both ?_ ?_ | (with_reducible refine choT ?_ ?_; omega) | (with_reducible refine choF ?_ ?_; omega) | with_reducible refine cho (fun _ => ?_) (fun _ => ?_))
  · rename_i h1
    refine ⟨?_, rfl⟩
    have : l.length = 0 := by omega
    simp [fit, this]
  · rename_i h1 h2
    refine ⟨?_, rfl⟩
    have : ¬ l.length ≤ 64 := by omega
    simp [fit, this]
  · rename_i h1 h2 h
    have hf : fit l = l.all right := by
      unfold fit
      rw [h, decide_eq_true (show 0 < l.length by omega), decide_eq_true (show l.length ≤ 64 by omega)]
      simp
    rw [hf]
    refine loopI (β := Nat) (fun i => i ≤ l.length ∧ l.all right = (l.drop i).all right) (fun i => [.lst 4 (l.map En.av) m, I .i64 (i : Nat)]) (fun _ => []) (fun i => l.length - i) 0 ⟨by omega, rfl⟩ (Sub.refl _ _) ?_
    rintro i ⟨hi, hs⟩
    repeat' (first | with_reducible apply Stp.go | with_reducible refine imp fun _ => ?_ | (with_reducible refine hyp ?_ ?_; first | assumption | exact leftT_mem (by assumption)) | (with_reducible refine need ?_ ?_; first | trivial | omega | exact ⟨by assumption, by omega⟩ | (simp only [List.length_append, List.length_cons, List.length_nil, List.length_map, List.length_take, List.length_drop, List.length_replicate, List.length_set]; omega)) | (with_reducible refine fact ?_ ?_; first | trivial | exact ⟨rfl, rfl⟩ | kernel_rfl) | with_reducible refine choT (by assumption) ?_ | with_reducible refine choF (by assumption) ?_ | with_reducible refine choF' (by assumption) ?_ | (with_reducible refine altT ?_ ?_; first | omega | (simp only [List.length_append, List.length_cons, List.length_nil, List.length_map, List.length_take, List.length_drop, List.length_replicate, List.length_set]; omega)) | with_reducible refine altF ?_ | with_reducible refine all fun _ => ?_ | with_reducible refine both ?_ ?_ | (with_reducible refine choT ?_ ?_; omega) | (with_reducible refine choF ?_ ?_; omega) | with_reducible refine cho (fun _ => ?_) (fun _ => ?_))
    · rename_i h4 h5
      refine again (i + 1) (by omega) ⟨by omega, ?_⟩ (Sub.refl _ _)
      rw [hs, drop_cons (show i < l.length by omega), List.all_cons, h5, Bool.true_and]
    · rename_i h4 h5
      rw [hs, drop_cons (show i < l.length by omega), List.all_cons, show right _ = false by simpa using h5]
      exact ⟨rfl, rfl⟩
    · have : l.drop i = [] := List.drop_of_length_le (by omega)
      rw [hs, this]
      exact ⟨rfl, rfl⟩
  · rename_i h1 h2 h
    refine ⟨?_, rfl⟩
    have : sorted l = false := by simpa using h
    simp [fit, this]
instance {a : AV} {l : List En} {m : SM} [h : IsL a En.av 4 l m] : PC Go.Proofs.Try.prog 39 [a] (l.length ≤ 1000000000000) (B (fit l)) := ⟨fun hl => ⟨[.lst 4 (l.map En.av) m], ⟨h.sub, trivial⟩, Fit_ok l m hl⟩⟩
def ref03_Same.mark : Mark := ⟨fun t => false, fun t => false, fun t => false, fun t => Nat.beq t 20 || Nat.beq t 24, fun t => false⟩
def ref03_Same.ann : Ann := ⟨fun n => bif Nat.beq n 4 then [0, 1, 5] else [], fun n => none, fun n => none⟩
/-- 'marlstone/marlstoneref03.Same' -/
def ref03_Same.sh (a0 a1 : AV) (σ : Store) (Q : AEnd → Store → Prop) : Prop :=
  Do (aBuiltin Go.Proofs.Try.prog .len #[22] [a0]) fun t7 =>
  Do (aBuiltin Go.Proofs.Try.prog .len #[22] [a1]) fun t9 =>
  Do (aBin Go.Proofs.Try.prog .neq 3 t7 t9) fun t10 =>
  aCond t10
    (Q (.ret (.val (.bool false))) σ)
    (aLoop (fun go vs σ =>
    At vs 0 fun s0 => At vs 1 fun s1 => At vs 2 fun s5 => Do (aBuiltin Go.Proofs.Try.prog .len #[22] [s0]) fun t13 =>
    Do (aBin Go.Proofs.Try.prog .lss 3 s5 t13) fun t14 =>
    aCond t14
      (Do (aIndexAddr .slice 4 s0 s5) fun t19 =>
    Do (loadF true 4 t19) fun t20 =>
    Do (aIndexAddr .slice 4 s1 s5) fun t23 =>
    Do (loadF true 4 t23) fun t24 =>
    Do (aBin Go.Proofs.Try.prog .neq 54 t20 t24) fun t25 =>
    aCond t25
      (Q (.ret (.val (.bool false))) σ)
      (Do (aBin Go.Proofs.Try.prog .add 3 s5 (.val (.int .i64 1))) fun t16 =>
    go [s0, s1, t16] σ))
      (Q (.ret (.val (.bool true))) σ))
    [a0, a1, (.val (.int .i64 0))] σ)
theorem ref03_Same.eq (a0 a1 : AV) (σ : Store) (Q : AEnd → Store → Prop) : vc (semOf Go.Proofs.Try.prog ref03_Same.mark) Go.Proofs.Try.f28.ntmps ref03_Same.ann (bodyOf Go.Proofs.Try.f28) (endK [.tmp 4] Q) (argFr [a0, a1]) σ = ref03_Same.sh a0 a1 σ Q := by kernel_rfl
theorem ref03_Same.go {a0 a1 : AV} {σ : Store} {Q : AEnd → Store → Prop} (h : ref03_Same.sh a0 a1 σ Q) : ACalls Go.Proofs.Try.prog 28 [a0, a1] σ Q :=
  acalls_of_eq [.tmp 4] Go.Proofs.Try.func28 (by kernel_rfl) (by kernel_rfl) (by kernel_rfl) (by kernel_rfl) (ref03_Same.eq a0 a1 σ Q) h
theorem Same_ok (a b : List En) (m m' : SM) (ha : a.length ≤ 1000000000000) : aPure Go.Proofs.Try.prog 28 [.lst 4 (a.map En.av) m, .lst 4 (b.map En.av) m'] (B (decide (a = b))) := by
  refine ref03_Same.go ?_
  unfold ref03_Same.sh
  repeat' (first | with_reducible apply Stp.go | with_reducible refine imp fun _ => ?_ | (with_reducible refine hyp ?_ ?_; first | assumption | exact leftT_mem (by assumption)) | (with_reducible refine need ?_ ?_; first | trivial | omega | exact ⟨by assumption, by omega⟩ | (simp only [List.length_append, List.length_cons, List.length_nil, List.length_map, List.length_take, List.length_drop, List.length_replicate, List.length_set]; omega)) | (with_reducible refine fact ?_ ?_; first | trivial | exact ⟨rfl, rfl⟩ | kernel_rfl) | with_reducible refine choT (by assumption) ?_ | with_reducible refine choF (by assumption) ?_ | with_reducible refine choF' (by assumption) ?_ | (with_reducible refine altT ?_ ?_; first | omega | (simp only [List.length_append, List.length_cons, List.length_nil, List.length_map, List.length_take, List.length_drop, List.length_replicate, List.length_set]; omega)) | with_reducible refine altF ?_ | with_reducible refine all fun _ => ?_ | with_reducible refine both ?_ ?_ | (with_reducible refine choT ?_ ?_; omega) | (with_reducible refine choF ?_ ?_; omega) | with_reducible refine cho (fun _ => ?_) (fun _ => ?_))
  · rename_i h
    have hab : a.length = b.length := h
    refine loopI (β := Nat) (fun i => i ≤ a.length ∧ decide (a = b) = decide (a.drop i = b.drop i)) (fun i => [.lst 4 (a.map En.av) m, .lst 4 (b.map En.av) m', I .i64 (i : Nat)]) (fun _ => []) (fun i => a.length - i) 0 ⟨by omega, rfl⟩ (Sub.refl _ _) ?_
    rintro i ⟨hi, hs⟩
    repeat' (first | with_reducible apply Stp.go | with_reducible refine imp fun _ => ?_ | (with_reducible refine hyp ?_ ?_; first | assumption | exact leftT_mem (by assumption)) | (with_reducible refine need ?_ ?_; first | trivial | omega | exact ⟨by assumption, by omega⟩ | (simp only [List.length_append, List.length_cons, List.length_nil, List.length_map, List.length_take, List.length_drop, List.length_replicate, List.length_set]; omega)) | (with_reducible refine fact ?_ ?_; first | trivial | exact ⟨rfl, rfl⟩ | kernel_rfl) | with_reducible refine choT (by assumption) ?_ | with_reducible refine choF (by assumption) ?_ | with_reducible refine choF' (by assumption) ?_ | (with_reducible refine altT ?_ ?_; first | omega | (simp only [List.length_append, List.length_cons, List.length_nil, List.length_map, List.length_take, List.length_drop, List.length_replicate, List.length_set]; omega)) | with_reducible refine altF ?_ | with_reducible refine all fun _ => ?_ | with_reducible refine both ?_ ?_ | (with_reducible refine choT ?_ ?_; omega) | (with_reducible refine choF ?_ ?_; omega) | with_reducible refine cho (fun _ => ?_) (fun _ => ?_))
    · rename_i h1 h2
      refine again (i + 1) (by omega) ⟨by omega, ?_⟩ (Sub.refl _ _)
      rw [hs, drop_cons (show i < a.length by omega), drop_cons (show i < b.length by omega), h2]
      simp
    · rename_i h1 h2
      rw [hs, drop_cons (show i < a.length by omega), drop_cons (show i < b.length by omega)]
      refine ⟨?_, rfl⟩
      simp only [List.cons.injEq, eq_false h2, false_and, decide_false]
    · have e1 : a.drop i = [] := List.drop_of_length_le (by omega)
      have e2 : b.drop i = [] := List.drop_of_length_le (by omega)
      rw [hs, e1, e2]
      exact ⟨rfl, rfl⟩
  · rename_i h
    have : ¬ a = b := fun e => h (by rw [e])
    exact ⟨by simp [this], rfl⟩
instance {x y : AV} {a b : List En} {m m' : SM} [h : IsL x En.av 4 a m] [h' : IsL y En.av 4 b m'] : PC Go.Proofs.Try.prog 28 [x, y] (a.length ≤ 1000000000000) (B (decide (a = b))) := ⟨fun hl => ⟨[.lst 4 (a.map En.av) m, .lst 4 (b.map En.av) m'], ⟨h.sub, h'.sub, trivial⟩, Same_ok a b m m' hl⟩⟩
end Go.Ab
