/- The laws BlockBytes and BlockFits: what their functions do. -/
import Derived.Test.YtopmpooglnfalaaF5
set_option linter.unusedVariables false
set_option linter.unusedSimpArgs false
namespace Go.Ab
def law04_shown.mark : Mark := ⟨fun t => Nat.beq t 9 || Nat.beq t 13, fun t => false, fun t => false, fun t => false, fun t => false⟩
def law04_shown.ann : Ann := ⟨fun n => [], fun n => none, fun n => none⟩
/-- 'marlstone/marlstonelaw04.shown' -/
def law04_shown.sh (σ : Store) (Q : AEnd → Store → Prop) : Prop :=
  Do (aLit [.val (.string ⟨#[]⟩), .val (.string ⟨#[]⟩), .val (.bool false), .val (.int .i64 0)] [(0, 1), (1, 1), (2, 1), (3, 1)] [(0, (.val (.string ⟨#[97]⟩))), (1, (.val (.string ⟨#[118]⟩))), (3, (.val (.int .i64 1)))]) fun t6 =>
  Do (aLit [.val (.string ⟨#[]⟩), .val (.string ⟨#[]⟩), .val (.bool false), .val (.int .i64 0)] [(0, 1), (1, 1), (2, 1), (3, 1)] [(0, (.val (.string ⟨#[97, 98]⟩))), (2, (.val (.bool true))), (3, (.val (.int .i64 2)))]) fun t7 =>
  Do (aSlLit (mkE [.val (.string ⟨#[]⟩), .val (.string ⟨#[]⟩), .val (.bool false), .val (.int .i64 0)]) 4 2 [(0, t6), (1, t7)]) fun t8 =>
  Do (aPureC Go.Proofs.Try.prog 20 [t8]) fun t9 =>
  Do (aExt t9 0) fun t10 =>
  Do (aExt t9 1) fun t11 =>
  Do (aPureC Go.Proofs.Try.prog 20 [(.val (.slice none 0 0))]) fun t13 =>
  Do (aExt t13 0) fun t14 =>
  Do (aExt t13 1) fun t15 =>
  Do (aConvBS t10) fun t17 =>
  Do (aBin Go.Proofs.Try.prog .eql 9 t17 (.val (.string ⟨#[0, 1, 97, 0, 1, 1, 118, 1, 1, 98, 1, 2, 0, 0, 0, 0, 0, 0, 0, 1]⟩))) fun t18 =>
  Do (aGuard t18 true (aIs t11)) fun t20 =>
  Do (aGuard t18 true (aBin Go.Proofs.Try.prog .eql 26 t20 (.val (.int .i64 0)))) fun t21 =>
  Do (aPick t18 t21 (.val (.bool false))) fun t22 =>
  Do (aGuard t22 true (aIs t15)) fun t24 =>
  Do (aGuard t22 true (aBin Go.Proofs.Try.prog .eql 26 t24 (.val (.int .i64 1)))) fun t25 =>
  Do (aPick t22 t25 (.val (.bool false))) fun t26 =>
  Q (.ret t26) σ
theorem law04_shown.eq (σ : Store) (Q : AEnd → Store → Prop) : vc (semOf Go.Proofs.Try.prog law04_shown.mark) Go.Proofs.Try.f18.ntmps law04_shown.ann (bodyOf Go.Proofs.Try.f18) (endK [.tmp 0] Q) (argFr []) σ = law04_shown.sh  σ Q := by kernel_rfl
theorem law04_shown.go {σ : Store} {Q : AEnd → Store → Prop} (h : law04_shown.sh  σ Q) : ACalls Go.Proofs.Try.prog 18 [] σ Q :=
  acalls_of_eq [.tmp 0] Go.Proofs.Try.func18 (by kernel_rfl) (by kernel_rfl) (by kernel_rfl) (by kernel_rfl) (law04_shown.eq  σ Q) h
def law04_BlockBytes.mark : Mark := ⟨fun t => Nat.beq t 10 || Nat.beq t 12 || Nat.beq t 18 || Nat.beq t 23 || Nat.beq t 28, fun t => Nat.beq t 13, fun t => false, fun t => false, fun t => false⟩
def law04_BlockBytes.ann : Ann := ⟨fun n => [], fun n => none, fun n => none⟩
/-- 'marlstone/marlstonelaw04.BlockBytes' -/
def law04_BlockBytes.sh (a0 : AV) (σ : Store) (Q : AEnd → Store → Prop) : Prop :=
  Do (aPureC Go.Proofs.Try.prog 18 []) fun t10 =>
  Do (aPureC Go.Proofs.Try.prog 19 [a0, (.val (.int .i64 70))]) fun t12 =>
  aRowL 35 (mkE [.val (.string ⟨#[]⟩), .val (.string ⟨#[]⟩), .val (.bool false), .val (.int .i64 0)]) 4 0 [] σ fun t13 σ =>
  aAppend 35 4 48 t13 t12 σ (subF fun t15 σ_1 =>
  Do (aPureC Go.Proofs.Try.prog 20 [t15]) fun t18 =>
  Do (aExt t18 0) fun t19 =>
  Do (aExt t18 1) fun t20 =>
  Do (aPureC Go.Proofs.Try.prog 21 [t12]) fun t23 =>
  Do (aExt t23 0) fun t24 =>
  Do (aExt t23 1) fun t25 =>
  Do (aPureC Go.Proofs.Try.prog 22 [t15, t12]) fun t28 =>
  Do (aGuard t10 true (aIs t19)) fun t31 =>
  Do (aGuard t10 true (aConvBS t31)) fun t32 =>
  Do (aGuard t10 true (aIs t24)) fun t33 =>
  Do (aGuard t10 true (aBin Go.Proofs.Try.prog .eql 9 t32 t33)) fun t34 =>
  Do (aPick t10 t34 (.val (.bool false))) fun t35 =>
  Do (aGuard t35 true (aIs t20)) fun t37 =>
  Do (aGuard t35 true (aIs t25)) fun t38 =>
  Do (aGuard t35 true (aBin Go.Proofs.Try.prog .eql 26 t37 t38)) fun t39 =>
  Do (aPick t35 t39 (.val (.bool false))) fun t40 =>
  Do (aGuard t40 true (aIs t28)) fun t42 =>
  Do (aPick t40 t42 (.val (.bool false))) fun t43 =>
  Q (.ret t43) σ_1)
theorem law04_BlockBytes.eq (a0 : AV) (σ : Store) (Q : AEnd → Store → Prop) : vc (semOf Go.Proofs.Try.prog law04_BlockBytes.mark) Go.Proofs.Try.f3.ntmps law04_BlockBytes.ann (bodyOf Go.Proofs.Try.f3) (endK [.tmp 2] Q) (argFr [a0]) σ = law04_BlockBytes.sh a0 σ Q := by kernel_rfl
theorem law04_BlockBytes.go {a0 : AV} {σ : Store} {Q : AEnd → Store → Prop} (h : law04_BlockBytes.sh a0 σ Q) : ACalls Go.Proofs.Try.prog 3 [a0] σ Q :=
  acalls_of_eq [.tmp 2] Go.Proofs.Try.func3 (by kernel_rfl) (by kernel_rfl) (by kernel_rfl) (by kernel_rfl) (law04_BlockBytes.eq a0 σ Q) h
def law04_BlockFits.mark : Mark := ⟨fun t => Nat.beq t 8 || Nat.beq t 10 || Nat.beq t 21 || Nat.beq t 35 || Nat.beq t 39, fun t => false, fun t => false, fun t => Nat.beq t 34, fun t => false⟩
def law04_BlockFits.ann : Ann := ⟨fun n => bif Nat.beq n 5 then [0, 3, 4, 5] else [], fun n => none, fun n => none⟩
/-- 'marlstone/marlstonelaw04.BlockFits' -/
def law04_BlockFits.sh (a0 : AV) (σ : Store) (Q : AEnd → Store → Prop) : Prop :=
  Do (aPureC Go.Proofs.Try.prog 18 []) fun t8 =>
  Do (aPureC Go.Proofs.Try.prog 19 [a0, (.val (.int .i64 70))]) fun t10 =>
  Do (aBuiltin Go.Proofs.Try.prog .len #[22] [t10]) fun t12 =>
  Do (aBin Go.Proofs.Try.prog .geq 3 t12 (.val (.int .i64 1))) fun t13 =>
  Do (aGuard t13 true (aIs t10)) fun t15 =>
  Do (aGuard t13 true (aBuiltin Go.Proofs.Try.prog .len #[22] [t15])) fun t16 =>
  Do (aGuard t13 true (aBin Go.Proofs.Try.prog .leq 3 t16 (.val (.int .i64 64)))) fun t17 =>
  Do (aPick t13 t17 (.val (.bool false))) fun t18 =>
  Do (aGuard t18 true (aIs t10)) fun t20 =>
  Do (aGuard t18 true (aPureC Go.Proofs.Try.prog 23 [t20])) fun t21 =>
  Do (aPick t18 t21 (.val (.bool false))) fun t22 =>
  aLoop (fun go vs σ =>
    At vs 0 fun s0 => At vs 1 fun s3 => At vs 2 fun s4 => At vs 3 fun s5 => Do (aBuiltin Go.Proofs.Try.prog .len #[22] [s0]) fun t25 =>
    Do (aBin Go.Proofs.Try.prog .lss 3 s5 t25) fun t26 =>
    aCond t26
      (Do (aGuard s4 true (aIs s0)) fun t31 =>
    Do (aGuard s4 true (aIs s5)) fun t32 =>
    Do (aGuard s4 true (aIndexAddr .slice 4 t31 t32)) fun t33 =>
    Do (aGuard s4 true (loadF true 4 t33)) fun t34 =>
    Do (aGuard s4 true (aPureC Go.Proofs.Try.prog 24 [t34])) fun t35 =>
    Do (aPick s4 t35 (.val (.bool false))) fun t36 =>
    Do (aBin Go.Proofs.Try.prog .add 3 s5 (.val (.int .i64 1))) fun t28 =>
    go [s0, s3, t36, t28] σ)
      (Do (aPureC Go.Proofs.Try.prog 20 [s0]) fun t39 =>
  Do (aExt t39 0) fun t40 =>
  Do (aExt t39 1) fun t41 =>
  Do (aGuard s3 true (aIs t41)) fun t44 =>
  Do (aGuard s3 true (aBin Go.Proofs.Try.prog .eql 26 t44 (.val (.int .i64 0)))) fun t45 =>
  Do (aGuard s3 true (aIs s4)) fun t46 =>
  Do (aGuard s3 true (aBin Go.Proofs.Try.prog .eql 4 t45 t46)) fun t47 =>
  Do (aPick s3 t47 (.val (.bool false))) fun t48 =>
  Do (aGuard t48 true (aIs s4)) fun t50 =>
  Do (aGuard t48 true (aIs t50)) fun t51 =>
  Do (aGuard t51 false (aIs t41)) fun t52 =>
  Do (aGuard t51 false (aBin Go.Proofs.Try.prog .eql 26 t52 (.val (.int .i64 1)))) fun t53 =>
  Do (aGuard t51 false (aIs t53)) fun t54 =>
  Do (aGuard t54 true (aIs t40)) fun t55 =>
  Do (aGuard t54 true (aBuiltin Go.Proofs.Try.prog .len #[25] [t55])) fun t56 =>
  Do (aGuard t54 true (aBin Go.Proofs.Try.prog .eql 3 t56 (.val (.int .i64 0)))) fun t57 =>
  Do (aGuard t51 false (aPick t54 t57 (.val (.bool false)))) fun t58 =>
  Do (aGuard t48 true (aPick t51 (.val (.bool true)) t58)) fun t59 =>
  Do (aPick t48 t59 (.val (.bool false))) fun t60 =>
  Q (.ret t60) σ))
    [t10, t8, t22, (.val (.int .i64 0))] σ
theorem law04_BlockFits.eq (a0 : AV) (σ : Store) (Q : AEnd → Store → Prop) : vc (semOf Go.Proofs.Try.prog law04_BlockFits.mark) Go.Proofs.Try.f4.ntmps law04_BlockFits.ann (bodyOf Go.Proofs.Try.f4) (endK [.tmp 2] Q) (argFr [a0]) σ = law04_BlockFits.sh a0 σ Q := by kernel_rfl
theorem law04_BlockFits.go {a0 : AV} {σ : Store} {Q : AEnd → Store → Prop} (h : law04_BlockFits.sh a0 σ Q) : ACalls Go.Proofs.Try.prog 4 [a0] σ Q :=
  acalls_of_eq [.tmp 2] Go.Proofs.Try.func4 (by kernel_rfl) (by kernel_rfl) (by kernel_rfl) (by kernel_rfl) (law04_BlockFits.eq a0 σ Q) h
theorem shown4_ok : aPure Go.Proofs.Try.prog 18 [] (B true) := by
  refine law04_shown.go ?_
  unfold law04_shown.sh
  have e1 : fit [⟨[97], [118], false, 1⟩, ⟨[97, 98], [], true, 2⟩] = true := by decide
  have e2 : blkB [⟨[97], [118], false, 1⟩, ⟨[97, 98], [], true, 2⟩] = [0, 1, 97, 0, 1, 1, 118, 1, 1, 98, 1, 2, 0, 0, 0, 0, 0, 0, 0, 1] := by
    simp [blkB, e1, blockBytes, blk, encE, sharedAt, common, fixed, put_small]
  have e3 : blkE [⟨[97], [118], false, 1⟩, ⟨[97, 98], [], true, 2⟩] = 0 := by simp [blkE, e1]
  have e4 : blkE [] = 1 := by decide
  repeat' (first | with_reducible apply Stp.go | with_reducible refine imp fun _ => ?_ | (with_reducible refine hyp ?_ ?_; first | assumption | exact leftT_mem (by assumption)) | (with_reducible refine need ?_ ?_; first | trivial | omega | (simp only [List.length_append, List.length_cons, List.length_nil, List.length_map, List.length_take, List.length_drop, List.length_replicate]; omega)) | (with_reducible refine fact ?_ ?_; first | trivial | exact ⟨rfl, rfl⟩ | kernel_rfl) | with_reducible refine choT (by assumption) ?_ | with_reducible refine choF (by assumption) ?_ | with_reducible refine choF' (by assumption) ?_ | (with_reducible refine altT ?_ ?_; first | omega | (simp only [List.length_append, List.length_cons, List.length_nil, List.length_map, List.length_take, List.length_drop, List.length_replicate]; omega)) | with_reducible refine altF ?_ | with_reducible refine all fun _ => ?_ | with_reducible refine both ?_ ?_ | (with_reducible refine choT ?_ ?_; omega) | (with_reducible refine choF ?_ ?_; omega) | with_reducible refine cho (fun _ => ?_) (fun _ => ?_))
  rw [e4]
  exact ⟨rfl, rfl⟩
instance shown4I : PC Go.Proofs.Try.prog 18 [] True (B true) := ⟨fun _ => PC.of shown4_ok⟩
theorem BlockBytes_ok (l : List En) (m : SM) (hl : l.length ≤ 100000000000000) : aPure Go.Proofs.Try.prog 3 [.lst 4 (l.map En.av) m] (B true) := by
  refine law04_BlockBytes.go ?_
  unfold law04_BlockBytes.sh
  have h70 : ((l.take 70).map (cutE 130 1030)).length ≤ 70 := by simp; omega
  repeat' (first | with_reducible apply Stp.go | with_reducible refine imp fun _ => ?_ | (with_reducible refine hyp ?_ ?_; first | assumption | exact leftT_mem (by assumption)) | (with_reducible refine need ?_ ?_; first | trivial | omega | (simp only [List.length_append, List.length_cons, List.length_nil, List.length_map, List.length_take, List.length_drop, List.length_replicate]; omega)) | (with_reducible refine fact ?_ ?_; first | trivial | exact ⟨rfl, rfl⟩ | kernel_rfl) | with_reducible refine choT (by assumption) ?_ | with_reducible refine choF (by assumption) ?_ | with_reducible refine choF' (by assumption) ?_ | (with_reducible refine altT ?_ ?_; first | omega | (simp only [List.length_append, List.length_cons, List.length_nil, List.length_map, List.length_take, List.length_drop, List.length_replicate]; omega)) | with_reducible refine altF ?_ | with_reducible refine all fun _ => ?_ | with_reducible refine both ?_ ?_ | (with_reducible refine choT ?_ ?_; omega) | (with_reducible refine choF ?_ ?_; omega) | with_reducible refine cho (fun _ => ?_) (fun _ => ?_))
  all_goals simp_all
theorem BlockFits_ok (l : List En) (m : SM) (hl : l.length ≤ 100000000000000) : aPure Go.Proofs.Try.prog 4 [.lst 4 (l.map En.av) m] (B true) := by
  refine law04_BlockFits.go ?_
  unfold law04_BlockFits.sh
  obtain ⟨L, hL⟩ : ∃ L, L = (l.take 70).map (cutE 130 1030) := ⟨_, rfl⟩
  have h70 : L.length ≤ 70 := by rw [hL]; simp; omega
  have fit_eq : fit L = (decide (1 ≤ L.length) && decide (L.length ≤ 64) && sorted L && L.all right) := rfl
  repeat' (first | with_reducible apply Stp.go | with_reducible refine imp fun _ => ?_ | (with_reducible refine hyp ?_ ?_; first | assumption | exact leftT_mem (by assumption)) | (with_reducible refine need ?_ ?_; first | trivial | omega | (simp only [List.length_append, List.length_cons, List.length_nil, List.length_map, List.length_take, List.length_drop, List.length_replicate]; omega)) | (with_reducible refine fact ?_ ?_; first | trivial | exact ⟨rfl, rfl⟩ | kernel_rfl) | with_reducible refine choT (by assumption) ?_ | with_reducible refine choF (by assumption) ?_ | with_reducible refine choF' (by assumption) ?_ | (with_reducible refine altT ?_ ?_; first | omega | (simp only [List.length_append, List.length_cons, List.length_nil, List.length_map, List.length_take, List.length_drop, List.length_replicate]; omega)) | with_reducible refine altF ?_ | with_reducible refine all fun _ => ?_ | with_reducible refine both ?_ ?_ | (with_reducible refine choT ?_ ?_; omega) | (with_reducible refine choF ?_ ?_; omega) | with_reducible refine cho (fun _ => ?_) (fun _ => ?_))
  all_goals
    rw [← hL] at *
    refine loopI (β := Nat) (fun i => i ≤ L.length) (fun i => [.lst 4 (L.map En.av) .ro, B true, B ((decide (1 ≤ L.length) && decide (L.length ≤ 64) && sorted L) && (L.take i).all right), I .i64 (i : Nat)]) (fun _ => []) (fun i => L.length - i) 0 (Nat.zero_le _) ?_ ?_
    · first
      | rw [decide_eq_true ‹1 ≤ L.length›, decide_eq_true ‹L.length ≤ 64›, Bool.true_and, Bool.true_and]
      | rw [decide_eq_true ‹1 ≤ L.length›, decide_eq_false ‹¬ L.length ≤ 64›, Bool.true_and, Bool.false_and]
      | rw [decide_eq_false ‹¬ 1 ≤ L.length›, Bool.false_and, Bool.false_and]
      rw [List.take_zero, List.all_nil, Bool.and_true]
      exact Sub.refl _ _
    · intro i hi
      by_cases hlt : i < L.length
      · first
        | (exfalso; omega)
        | (have e : (L.take (i + 1)).all right = ((L.take i).all right && right (L.getD i default)) := by rw [take_succ_d hlt, List.all_append]; simp
           repeat' (first | with_reducible apply Stp.go | with_reducible refine imp fun _ => ?_ | (with_reducible refine hyp ?_ ?_; first | assumption | exact leftT_mem (by assumption)) | (with_reducible refine need ?_ ?_; first | trivial | omega | (simp only [List.length_append, List.length_cons, List.length_nil, List.length_map, List.length_take, List.length_drop, List.length_replicate]; omega)) | (with_reducible refine fact ?_ ?_; first | trivial | exact ⟨rfl, rfl⟩ | kernel_rfl) | with_reducible refine choT (by assumption) ?_ | with_reducible refine choF (by assumption) ?_ | with_reducible refine choF' (by assumption) ?_ | (with_reducible refine altT ?_ ?_; first | omega | (simp only [List.length_append, List.length_cons, List.length_nil, List.length_map, List.length_take, List.length_drop, List.length_replicate]; omega)) | with_reducible refine altF ?_ | with_reducible refine all fun _ => ?_ | with_reducible refine both ?_ ?_ | (with_reducible refine choT ?_ ?_; omega) | (with_reducible refine choF ?_ ?_; omega) | with_reducible refine cho (fun _ => ?_) (fun _ => ?_))
           · rename_i hb
             refine again (i + 1) (by omega) (by omega) ?_
             rw [e, ← Bool.and_assoc, hb, Bool.true_and]
             exact Sub.refl _ _
           · rename_i hb
             refine again (i + 1) (by omega) (by omega) ?_
             rw [e, ← Bool.and_assoc, eq_false_of_ne_true hb, Bool.false_and]
             exact Sub.refl _ _)
      · have e : L.take i = L := List.take_of_length_le (by omega)
        rw [e, ← fit_eq]
        clear fit_eq
        repeat' (first | with_reducible apply Stp.go | with_reducible refine imp fun _ => ?_ | (with_reducible refine hyp ?_ ?_; first | assumption | exact leftT_mem (by assumption)) | (with_reducible refine need ?_ ?_; first | trivial | omega | (simp only [List.length_append, List.length_cons, List.length_nil, List.length_map, List.length_take, List.length_drop, List.length_replicate]; omega)) | (with_reducible refine fact ?_ ?_; first | trivial | exact ⟨rfl, rfl⟩ | kernel_rfl) | with_reducible refine choT (by assumption) ?_ | with_reducible refine choF (by assumption) ?_ | with_reducible refine choF' (by assumption) ?_ | (with_reducible refine altT ?_ ?_; first | omega | (simp only [List.length_append, List.length_cons, List.length_nil, List.length_map, List.length_take, List.length_drop, List.length_replicate]; omega)) | with_reducible refine altF ?_ | with_reducible refine all fun _ => ?_ | with_reducible refine both ?_ ?_ | (with_reducible refine choT ?_ ?_; omega) | (with_reducible refine choF ?_ ?_; omega) | with_reducible refine cho (fun _ => ?_) (fun _ => ?_))
        all_goals (try simp_all [blkE, blkB])
end Go.Ab
