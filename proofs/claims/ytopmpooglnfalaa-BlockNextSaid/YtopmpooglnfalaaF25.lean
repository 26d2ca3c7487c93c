/- The law BlockParses: what its function does. -/
import Derived.Test.YtopmpooglnfalaaF24
set_option linter.unusedVariables false
set_option linter.unusedSimpArgs false
namespace Go.Ab
def law04_BlockParses.mark : Mark := ⟨fun t => Nat.beq t 18 || Nat.beq t 29 || Nat.beq t 35 || Nat.beq t 40 || Nat.beq t 44 || Nat.beq t 52, fun t => Nat.beq t 24, fun t => false, fun t => false, fun t => false⟩
def law04_BlockParses.ann : Ann := ⟨fun n => [], fun n => none, fun n => none⟩
/-- 'marlstone/marlstonelaw04.BlockParses' -/
def law04_BlockParses.sh (a0 a1 : AV) (σ : Store) (Q : AEnd → Store → Prop) : Prop :=
  Do (aPureC Go.Proofs.Try.prog 18 []) fun t18 =>
  Do (aBuiltin Go.Proofs.Try.prog .len #[25] [a0]) fun t21 =>
  Do (aBuiltin Go.Proofs.Try.prog .min #[3, 3] [t21, (.val (.int .i64 5000))]) fun t22 =>
  Do (aSlice .slice 1 a0 none (some t22) none) fun t23 =>
  aRowL 5 (mkE [.val (.int .u8 0)]) 1 0 [] σ fun t24 σ =>
  aAppend 5 1 1 t24 t23 σ (subF fun t26 σ_1 =>
  Do (aPureC Go.Proofs.Try.prog 25 [t26]) fun t29 =>
  Do (aExt t29 0) fun t30 =>
  Do (aExt t29 1) fun t31 =>
  Do (aConvBS t23) fun t34 =>
  Do (aPureC Go.Proofs.Try.prog 26 [t34]) fun t35 =>
  Do (aExt t35 0) fun t36 =>
  Do (aExt t35 1) fun t37 =>
  Do (aPureC Go.Proofs.Try.prog 22 [t30, t36]) fun t40 =>
  Do (aPureC Go.Proofs.Try.prog 27 [t26, a1]) fun t44 =>
  Do (aExt t44 0) fun t45 =>
  Do (aExt t44 1) fun t46 =>
  Do (aExt t44 2) fun t47 =>
  aNewVar 35 [.val (.string ⟨#[]⟩), .val (.string ⟨#[]⟩), .val (.bool false), .val (.int .i64 0)] σ_1 fun t12 σ_2 =>
  storeA 4 t12 t45 σ_2 fun u σ_3 =>
  Do (aConvBS t23) fun t50 =>
  Do (aPureC Go.Proofs.Try.prog 28 [t50, a1]) fun t52 =>
  Do (aExt t52 0) fun t53 =>
  Do (aExt t52 1) fun t54 =>
  Do (aExt t52 2) fun t55 =>
  aNewVar 35 [.val (.string ⟨#[]⟩), .val (.string ⟨#[]⟩), .val (.bool false), .val (.int .i64 0)] σ_3 fun t15 σ_4 =>
  storeA 4 t15 t53 σ_4 fun u_1 σ_5 =>
  Do (aGuard t18 true (aIs t40)) fun t58 =>
  Do (aPick t18 t58 (.val (.bool false))) fun t59 =>
  Do (aGuard t59 true (aIs t31)) fun t61 =>
  Do (aGuard t59 true (aIs t37)) fun t62 =>
  Do (aGuard t59 true (aBin Go.Proofs.Try.prog .eql 26 t61 t62)) fun t63 =>
  Do (aPick t59 t63 (.val (.bool false))) fun t64 =>
  Do (aGuard t64 true (loadA true 4 t12 σ_5)) fun t66 =>
  Do (aGuard t64 true (loadA true 4 t15 σ_5)) fun t67 =>
  Do (aGuard t64 true (aBin Go.Proofs.Try.prog .eql 35 t66 t67)) fun t68 =>
  Do (aPick t64 t68 (.val (.bool false))) fun t69 =>
  Do (aGuard t69 true (aIs t46)) fun t71 =>
  Do (aGuard t69 true (aIs t54)) fun t72 =>
  Do (aGuard t69 true (aBin Go.Proofs.Try.prog .eql 4 t71 t72)) fun t73 =>
  Do (aPick t69 t73 (.val (.bool false))) fun t74 =>
  Do (aGuard t74 true (aIs t47)) fun t76 =>
  Do (aGuard t74 true (aIs t55)) fun t77 =>
  Do (aGuard t74 true (aBin Go.Proofs.Try.prog .eql 26 t76 t77)) fun t78 =>
  Do (aPick t74 t78 (.val (.bool false))) fun t79 =>
  Do (aGuard t79 true (aIs t26)) fun t81 =>
  Do (aGuard t79 true (aConvBS t81)) fun t82 =>
  Do (aGuard t79 true (aIs t23)) fun t83 =>
  Do (aGuard t79 true (aConvBS t83)) fun t84 =>
  Do (aGuard t79 true (aBin Go.Proofs.Try.prog .eql 9 t82 t84)) fun t85 =>
  Do (aPick t79 t85 (.val (.bool false))) fun t86 =>
  Q (.ret t86) σ_5)
theorem law04_BlockParses.eq (a0 a1 : AV) (σ : Store) (Q : AEnd → Store → Prop) : vc (semOf Go.Proofs.Try.prog law04_BlockParses.mark) Go.Proofs.Try.f6.ntmps law04_BlockParses.ann (bodyOf Go.Proofs.Try.f6) (endK [.tmp 4] Q) (argFr [a0, a1]) σ = law04_BlockParses.sh a0 a1 σ Q := by kernel_rfl
theorem law04_BlockParses.go {a0 a1 : AV} {σ : Store} {Q : AEnd → Store → Prop} (h : law04_BlockParses.sh a0 a1 σ Q) : ACalls Go.Proofs.Try.prog 6 [a0, a1] σ Q :=
  acalls_of_eq [.tmp 4] Go.Proofs.Try.func6 (by kernel_rfl) (by kernel_rfl) (by kernel_rfl) (by kernel_rfl) (law04_BlockParses.eq a0 a1 σ Q) h
theorem BlockParses_ok (b0 : List UInt8) (m : SM) (k : List UInt8) (hl : b0.length ≤ 140737488355328) (hk : k.length ≤ 140737488355328) : aPure Go.Proofs.Try.prog 6 [.lst 1 (b0.map byt) m, S k] (B true) := by
  refine ACalls.fin (law04_BlockParses.go ?_)
  unfold law04_BlockParses.sh
  have hbl : (b0.take (min b0.length 5000)).length ≤ 5000 := by rw [List.length_take]; omega
  have hv := fun b => blkV_len b
  repeat' (first | with_reducible apply Stp.go | with_reducible refine imp fun _ => ?_ | (with_reducible refine hyp ?_ ?_; first | assumption | exact leftT_mem (by assumption)) | (with_reducible refine need ?_ ?_; first | trivial | omega | exact ⟨by assumption, by omega⟩ | (simp only [List.length_append, List.length_cons, List.length_nil, List.length_map, List.length_take, List.length_drop, List.length_replicate]; omega)) | (with_reducible refine fact ?_ ?_; first | trivial | exact ⟨rfl, rfl⟩ | kernel_rfl) | with_reducible refine choT (by assumption) ?_ | with_reducible refine choF (by assumption) ?_ | with_reducible refine choF' (by assumption) ?_ | (with_reducible refine altT ?_ ?_; first | omega | (simp only [List.length_append, List.length_cons, List.length_nil, List.length_map, List.length_take, List.length_drop, List.length_replicate]; omega)) | with_reducible refine altF ?_ | with_reducible refine all fun _ => ?_ | with_reducible refine both ?_ ?_ | (with_reducible refine choT ?_ ?_; omega) | (with_reducible refine choF ?_ ?_; omega) | with_reducible refine cho (fun _ => ?_) (fun _ => ?_))
  rw [List.nil_append]
  obtain ⟨b, hb⟩ : ∃ b, b = b0.take (min b0.length 5000) := ⟨_, rfl⟩
  rw [← hb] at hbl ⊢
  have hv := blkV_len b
  repeat' (first | with_reducible apply Stp.go | with_reducible refine imp fun _ => ?_ | (with_reducible refine hyp ?_ ?_; first | assumption | exact leftT_mem (by assumption)) | (with_reducible refine need ?_ ?_; first | trivial | omega | exact ⟨by assumption, by omega⟩ | (simp only [List.length_append, List.length_cons, List.length_nil, List.length_map, List.length_take, List.length_drop, List.length_replicate]; omega)) | (with_reducible refine fact ?_ ?_; first | trivial | exact ⟨rfl, rfl⟩ | kernel_rfl) | with_reducible refine choT (by assumption) ?_ | with_reducible refine choF (by assumption) ?_ | with_reducible refine choF' (by assumption) ?_ | (with_reducible refine altT ?_ ?_; first | omega | (simp only [List.length_append, List.length_cons, List.length_nil, List.length_map, List.length_take, List.length_drop, List.length_replicate]; omega)) | with_reducible refine altF ?_ | with_reducible refine all fun _ => ?_ | with_reducible refine both ?_ ?_ | (with_reducible refine choT ?_ ?_; omega) | (with_reducible refine choF ?_ ?_; omega) | with_reducible refine cho (fun _ => ?_) (fun _ => ?_))
  all_goals first
    | exact absurd rfl ‹_›
    | (refine ⟨_, _, _, rfl, Sub.app_nil _, ?_, rfl⟩; simp)
end Go.Ab
