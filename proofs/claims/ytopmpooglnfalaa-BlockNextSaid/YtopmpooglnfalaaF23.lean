/- The law BlockOnce: what its function does. -/
import Derived.Test.YtopmpooglnfalaaF22
set_option linter.unusedVariables false
set_option linter.unusedSimpArgs false
namespace Go.Ab
theorem blkG_fit {b : List UInt8} {l : List En} (h : blkG b = some l) : fit l = true ∧ blockBytes l = b := by
  unfold blkG at h
  split at h
  · cases h
  · split at h
    · cases h
    · split at h
      · cases h
      · split at h
        · rename_i hc; cases h; exact hc
        · cases h
def law04_BlockOnce.mark : Mark := ⟨fun t => Nat.beq t 9 || Nat.beq t 17 || Nat.beq t 42 || Nat.beq t 46 || Nat.beq t 63, fun t => false, fun t => false, fun t => Nat.beq t 41, fun t => false⟩
def law04_BlockOnce.ann : Ann := ⟨fun n => bif Nat.beq n 7 then [0, 3, 4, 6] else [], fun n => none, fun n => none⟩
/-- 'marlstone/marlstonelaw04.BlockOnce' -/
def law04_BlockOnce.sh (a0 : AV) (σ : Store) (Q : AEnd → Store → Prop) : Prop :=
  Do (aPureC Go.Proofs.Try.prog 18 []) fun t9 =>
  Do (aBuiltin Go.Proofs.Try.prog .len #[25] [a0]) fun t12 =>
  Do (aBuiltin Go.Proofs.Try.prog .min #[3, 3] [t12, (.val (.int .i64 5000))]) fun t13 =>
  Do (aSlice .slice 1 a0 none (some t13) none) fun t14 =>
  Do (aPureC Go.Proofs.Try.prog 25 [t14]) fun t17 =>
  Do (aExt t17 0) fun t18 =>
  Do (aExt t17 1) fun t19 =>
  Do (aBin Go.Proofs.Try.prog .neq 26 t19 (.val (.int .i64 0))) fun t21 =>
  aCond t21
    (Do (aGuard t9 true (aIs t19)) fun t24 =>
    Do (aGuard t9 true (aBin Go.Proofs.Try.prog .eql 26 t24 (.val (.int .i64 2)))) fun t25 =>
    Do (aPick t9 t25 (.val (.bool false))) fun t26 =>
    Do (aGuard t26 true (aIs t18)) fun t28 =>
    Do (aGuard t26 true (aBuiltin Go.Proofs.Try.prog .len #[22] [t28])) fun t29 =>
    Do (aGuard t26 true (aBin Go.Proofs.Try.prog .eql 3 t29 (.val (.int .i64 0)))) fun t30 =>
    Do (aPick t26 t30 (.val (.bool false))) fun t31 =>
    Q (.ret t31) σ)
    (aLoop (fun go vs σ =>
    At vs 0 fun s0 => At vs 1 fun s3 => At vs 2 fun s4 => At vs 3 fun s6 => Do (aBuiltin Go.Proofs.Try.prog .len #[22] [s4]) fun t34 =>
    Do (aBin Go.Proofs.Try.prog .lss 3 s6 t34) fun t35 =>
    aCond t35
      (Do (aIndexAddr .slice 4 s4 s6) fun t40 =>
    Do (loadF true 4 t40) fun t41 =>
    Do (aPureC Go.Proofs.Try.prog 24 [t41]) fun t42 =>
    Do (aUn Go.Proofs.Try.prog .not t42) fun t43 =>
    aCond t43
      (Q (.ret (.val (.bool false))) σ)
      (Do (aBin Go.Proofs.Try.prog .add 3 s6 (.val (.int .i64 1))) fun t37 =>
    go [s0, s3, s4, t37] σ))
      (Do (aPureC Go.Proofs.Try.prog 20 [s4]) fun t46 =>
  Do (aExt t46 0) fun t47 =>
  Do (aExt t46 1) fun t48 =>
  Do (aGuard s3 true (aIs t48)) fun t51 =>
  Do (aGuard s3 true (aBin Go.Proofs.Try.prog .eql 26 t51 (.val (.int .i64 0)))) fun t52 =>
  Do (aPick s3 t52 (.val (.bool false))) fun t53 =>
  Do (aGuard t53 true (aIs t47)) fun t55 =>
  Do (aGuard t53 true (aConvBS t55)) fun t56 =>
  Do (aGuard t53 true (aIs s0)) fun t57 =>
  Do (aGuard t53 true (aConvBS t57)) fun t58 =>
  Do (aGuard t53 true (aBin Go.Proofs.Try.prog .eql 9 t56 t58)) fun t59 =>
  Do (aPick t53 t59 (.val (.bool false))) fun t60 =>
  Do (aGuard t60 true (aIs s4)) fun t62 =>
  Do (aGuard t60 true (aPureC Go.Proofs.Try.prog 23 [t62])) fun t63 =>
  Do (aPick t60 t63 (.val (.bool false))) fun t64 =>
  Do (aGuard t64 true (aIs s4)) fun t66 =>
  Do (aGuard t64 true (aBuiltin Go.Proofs.Try.prog .len #[22] [t66])) fun t67 =>
  Do (aGuard t64 true (aBin Go.Proofs.Try.prog .geq 3 t67 (.val (.int .i64 1)))) fun t68 =>
  Do (aPick t64 t68 (.val (.bool false))) fun t69 =>
  Do (aGuard t69 true (aIs s4)) fun t71 =>
  Do (aGuard t69 true (aBuiltin Go.Proofs.Try.prog .len #[22] [t71])) fun t72 =>
  Do (aGuard t69 true (aBin Go.Proofs.Try.prog .leq 3 t72 (.val (.int .i64 64)))) fun t73 =>
  Do (aPick t69 t73 (.val (.bool false))) fun t74 =>
  Q (.ret t74) σ))
    [t14, t9, t18, (.val (.int .i64 0))] σ)
theorem law04_BlockOnce.eq (a0 : AV) (σ : Store) (Q : AEnd → Store → Prop) : vc (semOf Go.Proofs.Try.prog law04_BlockOnce.mark) Go.Proofs.Try.f5.ntmps law04_BlockOnce.ann (bodyOf Go.Proofs.Try.f5) (endK [.tmp 2] Q) (argFr [a0]) σ = law04_BlockOnce.sh a0 σ Q := by kernel_rfl
theorem law04_BlockOnce.go {a0 : AV} {σ : Store} {Q : AEnd → Store → Prop} (h : law04_BlockOnce.sh a0 σ Q) : ACalls Go.Proofs.Try.prog 5 [a0] σ Q :=
  acalls_of_eq [.tmp 2] Go.Proofs.Try.func5 (by kernel_rfl) (by kernel_rfl) (by kernel_rfl) (by kernel_rfl) (law04_BlockOnce.eq a0 σ Q) h
theorem BlockOnce_ok (b0 : List UInt8) (m : SM) (hl : b0.length ≤ 140737488355328) : aPure Go.Proofs.Try.prog 5 [.lst 1 (b0.map byt) m] (B true) := by
  refine law04_BlockOnce.go ?_
  unfold law04_BlockOnce.sh
  obtain ⟨b, hb⟩ : ∃ b, b = b0.take (min b0.length 5000) := ⟨_, rfl⟩
  have hbl : b.length ≤ 5000 := by rw [hb, List.length_take]; omega
  cases hG : blkG b with
  | none =>
    have e1 : blkX b = 2 := by rw [blkX, hG]; rfl
    have e2 : blkV b = [] := by rw [blkV, hG]; rfl
    have e3 : ¬ blkX b = 0 := by rw [e1]; decide
    subst hb
    repeat' (first | with_reducible apply Stp.go | with_reducible refine imp fun _ => ?_ | (with_reducible refine hyp ?_ ?_; first | assumption | exact leftT_mem (by assumption)) | (with_reducible refine need ?_ ?_; first | trivial | omega | (simp only [List.length_append, List.length_cons, List.length_nil, List.length_map, List.length_take, List.length_drop, List.length_replicate]; omega)) | (with_reducible refine fact ?_ ?_; first | trivial | exact ⟨rfl, rfl⟩ | kernel_rfl) | with_reducible refine choT (by assumption) ?_ | with_reducible refine choF (by assumption) ?_ | with_reducible refine choF' (by assumption) ?_ | (with_reducible refine altT ?_ ?_; first | omega | (simp only [List.length_append, List.length_cons, List.length_nil, List.length_map, List.length_take, List.length_drop, List.length_replicate]; omega)) | with_reducible refine altF ?_ | with_reducible refine all fun _ => ?_ | with_reducible refine both ?_ ?_ | (with_reducible refine choT ?_ ?_; omega) | (with_reducible refine choF ?_ ?_; omega) | with_reducible refine cho (fun _ => ?_) (fun _ => ?_))
    rw [e2]
    exact ⟨rfl, rfl⟩
  | some l =>
    obtain ⟨hf, hbb⟩ := blkG_fit hG
    have e1 : blkX b = 0 := by rw [blkX, hG]; rfl
    have e2 : blkV b = l := by rw [blkV, hG]; rfl
    obtain ⟨h64, h0, hs, hr⟩ := fit_right hf
    have e3 : blkB l = b := by rw [blkB, if_pos hf, hbb]
    have e4 : blkE l = 0 := by rw [blkE, if_pos hf]
    have h1 : 1 ≤ l.length := h0
    rw [hb] at e1
    repeat' (first | with_reducible apply Stp.go | with_reducible refine imp fun _ => ?_ | (with_reducible refine hyp ?_ ?_; first | assumption | exact leftT_mem (by assumption)) | (with_reducible refine need ?_ ?_; first | trivial | omega | (simp only [List.length_append, List.length_cons, List.length_nil, List.length_map, List.length_take, List.length_drop, List.length_replicate]; omega)) | (with_reducible refine fact ?_ ?_; first | trivial | exact ⟨rfl, rfl⟩ | kernel_rfl) | with_reducible refine choT (by assumption) ?_ | with_reducible refine choF (by assumption) ?_ | with_reducible refine choF' (by assumption) ?_ | (with_reducible refine altT ?_ ?_; first | omega | (simp only [List.length_append, List.length_cons, List.length_nil, List.length_map, List.length_take, List.length_drop, List.length_replicate]; omega)) | with_reducible refine altF ?_ | with_reducible refine all fun _ => ?_ | with_reducible refine both ?_ ?_ | (with_reducible refine choT ?_ ?_; omega) | (with_reducible refine choF ?_ ?_; omega) | with_reducible refine cho (fun _ => ?_) (fun _ => ?_))
    rw [← hb, e2]
    refine loopI (β := Nat) (fun i => i ≤ l.length) (fun i => [.lst 1 (b.map byt) .ro, B true, .lst 4 (l.map En.av) .ro, I .i64 (i : Nat)]) (fun _ => []) (fun i => l.length - i) 0 (Nat.zero_le _) (Sub.refl _ _) ?_
    intro i hi
    by_cases hlt : i < l.length
    · have hri := hr i hlt
      repeat' (first | with_reducible apply Stp.go | with_reducible refine imp fun _ => ?_ | (with_reducible refine hyp ?_ ?_; first | assumption | exact leftT_mem (by assumption)) | (with_reducible refine need ?_ ?_; first | trivial | omega | (simp only [List.length_append, List.length_cons, List.length_nil, List.length_map, List.length_take, List.length_drop, List.length_replicate]; omega)) | (with_reducible refine fact ?_ ?_; first | trivial | exact ⟨rfl, rfl⟩ | kernel_rfl) | with_reducible refine choT (by assumption) ?_ | with_reducible refine choF (by assumption) ?_ | with_reducible refine choF' (by assumption) ?_ | (with_reducible refine altT ?_ ?_; first | omega | (simp only [List.length_append, List.length_cons, List.length_nil, List.length_map, List.length_take, List.length_drop, List.length_replicate]; omega)) | with_reducible refine altF ?_ | with_reducible refine all fun _ => ?_ | with_reducible refine both ?_ ?_ | (with_reducible refine choT ?_ ?_; omega) | (with_reducible refine choF ?_ ?_; omega) | with_reducible refine cho (fun _ => ?_) (fun _ => ?_))
      exact again (i + 1) (by omega) (by omega) (Sub.refl _ _)
    · repeat' (first | with_reducible apply Stp.go | with_reducible refine imp fun _ => ?_ | (with_reducible refine hyp ?_ ?_; first | assumption | exact leftT_mem (by assumption)) | (with_reducible refine need ?_ ?_; first | trivial | omega | (simp only [List.length_append, List.length_cons, List.length_nil, List.length_map, List.length_take, List.length_drop, List.length_replicate]; omega)) | (with_reducible refine fact ?_ ?_; first | trivial | exact ⟨rfl, rfl⟩ | kernel_rfl) | with_reducible refine choT (by assumption) ?_ | with_reducible refine choF (by assumption) ?_ | with_reducible refine choF' (by assumption) ?_ | (with_reducible refine altT ?_ ?_; first | omega | (simp only [List.length_append, List.length_cons, List.length_nil, List.length_map, List.length_take, List.length_drop, List.length_replicate]; omega)) | with_reducible refine altF ?_ | with_reducible refine all fun _ => ?_ | with_reducible refine both ?_ ?_ | (with_reducible refine choT ?_ ?_; omega) | (with_reducible refine choF ?_ ?_; omega) | with_reducible refine cho (fun _ => ?_) (fun _ => ?_))
      rw [decide_eq_true h64]
      exact ⟨rfl, rfl⟩
end Go.Ab
