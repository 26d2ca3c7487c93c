/- The laws EntryTells, EntryRow and EntryBack: what their functions do. -/
import Derived.Test.YtopmpooglnfalaaF15
import Derived.Test.YtopmpooglnfalaaSp8
set_option linter.unusedVariables false
set_option linter.unusedSimpArgs false
namespace Go.Ab
def law03_EntryTells.mark : Mark := ⟨fun t => Nat.beq t 13 || Nat.beq t 15 || Nat.beq t 26 || Nat.beq t 33 || Nat.beq t 40 || Nat.beq t 42 || Nat.beq t 47 || Nat.beq t 50, fun t => Nat.beq t 21, fun t => false, fun t => false, fun t => false⟩
def law03_EntryTells.ann : Ann := ⟨fun n => [], fun n => none, fun n => none⟩
/-- 'marlstone/marlstonelaw03.EntryTells' -/
def law03_EntryTells.sh (a0 a1 : AV) (σ : Store) (Q : AEnd → Store → Prop) : Prop :=
  aNewVar 35 (a0 : AV).cells σ fun t2 σ =>
  Do (aPureC Go.Proofs.Try.prog 29 []) fun t13 =>
  Do (loadA true 4 t2 σ) fun t14 =>
  Do (aPureC Go.Proofs.Try.prog 39 [t14]) fun t15 =>
  storeA 4 t2 t15 σ fun u σ_1 =>
  Do (aBuiltin Go.Proofs.Try.prog .len #[25] [a1]) fun t18 =>
  Do (aBuiltin Go.Proofs.Try.prog .min #[3, 3] [t18, (.val (.int .i64 3000))]) fun t19 =>
  Do (aSlice .slice 1 a1 none (some t19) none) fun t20 =>
  aRowL 5 (mkE [.val (.int .u8 0)]) 1 0 [] σ_1 fun t21 σ_2 =>
  aAppend 5 1 1 t21 t20 σ_2 (subF fun t23 σ_3 =>
  Do (aPureC Go.Proofs.Try.prog 40 [t23]) fun t26 =>
  Do (aExt t26 0) fun t27 =>
  Do (aExt t26 1) fun t28 =>
  Do (aExt t26 2) fun t29 =>
  aNewVar 35 [.val (.string ⟨#[]⟩), .val (.string ⟨#[]⟩), .val (.bool false), .val (.int .i64 0)] σ_3 fun t7 σ_4 =>
  storeA 4 t7 t27 σ_4 fun u_1 σ_5 =>
  Do (aConvBS t20) fun t32 =>
  Do (aPureC Go.Proofs.Try.prog 41 [t32]) fun t33 =>
  Do (aExt t33 0) fun t34 =>
  Do (aExt t33 1) fun t35 =>
  Do (aExt t33 2) fun t36 =>
  aNewVar 35 [.val (.string ⟨#[]⟩), .val (.string ⟨#[]⟩), .val (.bool false), .val (.int .i64 0)] σ_5 fun t10 σ_6 =>
  storeA 4 t10 t34 σ_6 fun u_2 σ_7 =>
  Do (aGuard t13 true (loadA true 4 t2 σ_7)) fun t39 =>
  Do (aGuard t13 true (aPureC Go.Proofs.Try.prog 24 [t39])) fun t40 =>
  Do (aGuard t13 true (loadA true 4 t2 σ_7)) fun t41 =>
  Do (aGuard t13 true (aPureC Go.Proofs.Try.prog 42 [t41])) fun t42 =>
  Do (aGuard t13 true (aBin Go.Proofs.Try.prog .eql 4 t40 t42)) fun t43 =>
  Do (aPick t13 t43 (.val (.bool false))) fun t44 =>
  Do (aGuard t44 true (loadA true 4 t2 σ_7)) fun t46 =>
  Do (aGuard t44 true (aPureC Go.Proofs.Try.prog 30 [t46])) fun t47 =>
  Do (aGuard t44 true (aConvBS t47)) fun t48 =>
  Do (aGuard t44 true (loadA true 4 t2 σ_7)) fun t49 =>
  Do (aGuard t44 true (aPureC Go.Proofs.Try.prog 43 [t49])) fun t50 =>
  Do (aGuard t44 true (aBin Go.Proofs.Try.prog .eql 9 t48 t50)) fun t51 =>
  Do (aPick t44 t51 (.val (.bool false))) fun t52 =>
  Do (aGuard t52 true (loadA true 4 t7 σ_7)) fun t54 =>
  Do (aGuard t52 true (loadA true 4 t10 σ_7)) fun t55 =>
  Do (aGuard t52 true (aBin Go.Proofs.Try.prog .eql 35 t54 t55)) fun t56 =>
  Do (aPick t52 t56 (.val (.bool false))) fun t57 =>
  Do (aGuard t57 true (aIs t28)) fun t59 =>
  Do (aGuard t57 true (aIs t35)) fun t60 =>
  Do (aGuard t57 true (aBin Go.Proofs.Try.prog .eql 3 t59 t60)) fun t61 =>
  Do (aPick t57 t61 (.val (.bool false))) fun t62 =>
  Do (aGuard t62 true (aIs t29)) fun t64 =>
  Do (aGuard t62 true (aIs t36)) fun t65 =>
  Do (aGuard t62 true (aBin Go.Proofs.Try.prog .eql 26 t64 t65)) fun t66 =>
  Do (aPick t62 t66 (.val (.bool false))) fun t67 =>
  Do (aGuard t67 true (aIs t23)) fun t69 =>
  Do (aGuard t67 true (aConvBS t69)) fun t70 =>
  Do (aGuard t67 true (aIs t20)) fun t71 =>
  Do (aGuard t67 true (aConvBS t71)) fun t72 =>
  Do (aGuard t67 true (aBin Go.Proofs.Try.prog .eql 9 t70 t72)) fun t73 =>
  Do (aPick t67 t73 (.val (.bool false))) fun t74 =>
  Q (.ret t74) σ_7)
theorem law03_EntryTells.eq (a0 a1 : AV) (σ : Store) (Q : AEnd → Store → Prop) : vc (semOf Go.Proofs.Try.prog law03_EntryTells.mark) Go.Proofs.Try.f12.ntmps law03_EntryTells.ann (bodyOf Go.Proofs.Try.f12) (endK [.tmp 4] Q) (argFr [a0, a1]) σ = law03_EntryTells.sh a0 a1 σ Q := by kernel_rfl
theorem law03_EntryTells.go {a0 a1 : AV} {σ : Store} {Q : AEnd → Store → Prop} (h : law03_EntryTells.sh a0 a1 σ Q) : ACalls Go.Proofs.Try.prog 12 [a0, a1] σ Q :=
  acalls_of_eq [.tmp 4] Go.Proofs.Try.func12 (by kernel_rfl) (by kernel_rfl) (by kernel_rfl) (by kernel_rfl) (law03_EntryTells.eq a0 a1 σ Q) h
def law03_EntryRow.mark : Mark := ⟨fun t => Nat.beq t 10 || Nat.beq t 12 || Nat.beq t 24 || Nat.beq t 36 || Nat.beq t 40, fun t => false, fun t => false, fun t => Nat.beq t 23 || Nat.beq t 35 || Nat.beq t 51, fun t => false⟩
def law03_EntryRow.ann : Ann := ⟨fun n => bif Nat.beq n 5 then [0, 3, 4, 5] else bif Nat.beq n 9 then [0, 3, 4, 6] else [], fun n => none, fun n => none⟩
/-- 'marlstone/marlstonelaw03.EntryRow' -/
def law03_EntryRow.sh (a0 : AV) (σ : Store) (Q : AEnd → Store → Prop) : Prop :=
  Do (aPureC Go.Proofs.Try.prog 29 []) fun t10 =>
  Do (aPureC Go.Proofs.Try.prog 32 [a0, (.val (.int .i64 40))]) fun t12 =>
  aLoop (fun go vs σ =>
    At vs 0 fun s0 => At vs 1 fun s3 => At vs 2 fun s4 => At vs 3 fun s5 => Do (aBuiltin Go.Proofs.Try.prog .len #[22] [s0]) fun t15 =>
    Do (aBin Go.Proofs.Try.prog .lss 3 s5 t15) fun t16 =>
    aCond t16
      (Do (aIndexAddr .slice 4 s0 s5) fun t22 =>
    Do (loadF true 4 t22) fun t23 =>
    Do (aPureC Go.Proofs.Try.prog 30 [t23]) fun t24 =>
    aAppend 5 1 1 s4 t24 σ (subK fun t25 σ_1 =>
    Do (aBin Go.Proofs.Try.prog .add 3 s5 (.val (.int .i64 1))) fun t18 =>
    go [s0, s3, t25, t18] σ_1))
      (aLoop (fun go_1 vs_1 σ_2 =>
    At vs_1 0 fun s0_1 => At vs_1 1 fun s3_1 => At vs_1 2 fun s4_1 => At vs_1 3 fun s6 => Do (aBuiltin Go.Proofs.Try.prog .len #[22] [s0_1]) fun t28 =>
    Do (aBin Go.Proofs.Try.prog .lss 3 s6 t28) fun t29 =>
    aCond t29
      (Do (aIndexAddr .slice 4 s0_1 s6) fun t34 =>
    Do (loadF true 4 t34) fun t35 =>
    Do (aPureC Go.Proofs.Try.prog 24 [t35]) fun t36 =>
    Do (aUn Go.Proofs.Try.prog .not t36) fun t37 =>
    aCond t37
      (Do (aBin Go.Proofs.Try.prog .add 3 s6 (.val (.int .i64 1))) fun t31 =>
    go_1 [s0_1, s3_1, s4_1, t31] σ_2)
      (Do (aPureC Go.Proofs.Try.prog 40 [s4_1]) fun t40 =>
    Do (aExt t40 0) fun t41 =>
    Do (aExt t40 1) fun t42 =>
    Do (aExt t40 2) fun t43 =>
    aNewVar 35 [.val (.string ⟨#[]⟩), .val (.string ⟨#[]⟩), .val (.bool false), .val (.int .i64 0)] σ_2 fun t7 σ_3 =>
    storeA 4 t7 t41 σ_3 fun u σ_4 =>
    Do (aBin Go.Proofs.Try.prog .neq 26 t43 (.val (.int .i64 0))) fun t45 =>
    Do (aGuard t45 false (loadA true 4 t7 σ_4)) fun t47 =>
    Do (aGuard t45 false (aIs s0_1)) fun t48 =>
    Do (aGuard t45 false (aIs s6)) fun t49 =>
    Do (aGuard t45 false (aIndexAddr .slice 4 t48 t49)) fun t50 =>
    Do (aGuard t45 false (loadF true 4 t50)) fun t51 =>
    Do (aGuard t45 false (aBin Go.Proofs.Try.prog .neq 35 t47 t51)) fun t52 =>
    Do (aPick t45 (.val (.bool true)) t52) fun t53 =>
    Do (aGuard t53 false (aIs t42)) fun t55 =>
    Do (aGuard t53 false (aBin Go.Proofs.Try.prog .lss 3 t55 (.val (.int .i64 1)))) fun t56 =>
    Do (aPick t53 (.val (.bool true)) t56) fun t57 =>
    Do (aGuard t57 false (aIs t42)) fun t59 =>
    Do (aGuard t57 false (aIs s4_1)) fun t60 =>
    Do (aGuard t57 false (aBuiltin Go.Proofs.Try.prog .len #[25] [t60])) fun t61 =>
    Do (aGuard t57 false (aBin Go.Proofs.Try.prog .gtr 3 t59 t61)) fun t62 =>
    Do (aPick t57 (.val (.bool true)) t62) fun t63 =>
    aCond t63
      (Q (.ret (.val (.bool false))) σ_4)
      (Do (aSlice .slice 1 s4_1 (some t42) none none) fun t66 =>
    Do (aBin Go.Proofs.Try.prog .add 3 s6 (.val (.int .i64 1))) fun t31_1 =>
    go_1 [s0_1, s3_1, t66, t31_1] σ_4)))
      (Do (aGuard s3_1 true (aIs s4_1)) fun t69 =>
  Do (aGuard s3_1 true (aBuiltin Go.Proofs.Try.prog .len #[25] [t69])) fun t70 =>
  Do (aGuard s3_1 true (aBin Go.Proofs.Try.prog .eql 3 t70 (.val (.int .i64 0)))) fun t71 =>
  Do (aPick s3_1 t71 (.val (.bool false))) fun t72 =>
  Q (.ret t72) σ_2))
    [s0, s3, s4, (.val (.int .i64 0))] σ))
    [t12, t10, (.val (.slice none 0 0)), (.val (.int .i64 0))] σ
theorem law03_EntryRow.eq (a0 : AV) (σ : Store) (Q : AEnd → Store → Prop) : vc (semOf Go.Proofs.Try.prog law03_EntryRow.mark) Go.Proofs.Try.f14.ntmps law03_EntryRow.ann (bodyOf Go.Proofs.Try.f14) (endK [.tmp 2] Q) (argFr [a0]) σ = law03_EntryRow.sh a0 σ Q := by kernel_rfl
theorem law03_EntryRow.go {a0 : AV} {σ : Store} {Q : AEnd → Store → Prop} (h : law03_EntryRow.sh a0 σ Q) : ACalls Go.Proofs.Try.prog 14 [a0] σ Q :=
  acalls_of_eq [.tmp 2] Go.Proofs.Try.func14 (by kernel_rfl) (by kernel_rfl) (by kernel_rfl) (by kernel_rfl) (law03_EntryRow.eq a0 σ Q) h
def law03_EntryBack.mark : Mark := ⟨fun t => Nat.beq t 13 || Nat.beq t 15 || Nat.beq t 22 || Nat.beq t 29 || Nat.beq t 35 || Nat.beq t 43 || Nat.beq t 57 || Nat.beq t 67, fun t => Nat.beq t 24, fun t => false, fun t => false, fun t => false⟩
def law03_EntryBack.ann : Ann := ⟨fun n => [], fun n => none, fun n => none⟩
/-- 'marlstone/marlstonelaw03.EntryBack' -/
def law03_EntryBack.sh (a0 a1 : AV) (σ : Store) (Q : AEnd → Store → Prop) : Prop :=
  aNewVar 35 (a0 : AV).cells σ fun t2 σ =>
  Do (aPureC Go.Proofs.Try.prog 29 []) fun t13 =>
  Do (loadA true 4 t2 σ) fun t14 =>
  Do (aPureC Go.Proofs.Try.prog 39 [t14]) fun t15 =>
  storeA 4 t2 t15 σ fun u σ_1 =>
  Do (aBuiltin Go.Proofs.Try.prog .len #[25] [a1]) fun t18 =>
  Do (aBuiltin Go.Proofs.Try.prog .min #[3, 3] [t18, (.val (.int .i64 2000))]) fun t19 =>
  Do (aSlice .slice 1 a1 none (some t19) none) fun t20 =>
  Do (loadA true 4 t2 σ_1) fun t21 =>
  Do (aPureC Go.Proofs.Try.prog 30 [t21]) fun t22 =>
  aRowL 5 (mkE [.val (.int .u8 0)]) 1 0 [] σ_1 fun t24 σ_2 =>
  aAppend 5 1 1 t24 t22 σ_2 (subK fun t26 σ_3 =>
  aAppend 5 1 1 t26 t20 σ_3 (subF fun t28 σ_4 =>
  Do (aPureC Go.Proofs.Try.prog 40 [t28]) fun t29 =>
  Do (aExt t29 0) fun t30 =>
  Do (aExt t29 1) fun t31 =>
  Do (aExt t29 2) fun t32 =>
  aNewVar 35 [.val (.string ⟨#[]⟩), .val (.string ⟨#[]⟩), .val (.bool false), .val (.int .i64 0)] σ_4 fun t7 σ_5 =>
  storeA 4 t7 t30 σ_5 fun u_1 σ_6 =>
  Do (aPureC Go.Proofs.Try.prog 40 [t20]) fun t35 =>
  Do (aExt t35 0) fun t36 =>
  Do (aExt t35 1) fun t37 =>
  Do (aExt t35 2) fun t38 =>
  aNewVar 35 [.val (.string ⟨#[]⟩), .val (.string ⟨#[]⟩), .val (.bool false), .val (.int .i64 0)] σ_6 fun t10 σ_7 =>
  storeA 4 t10 t36 σ_7 fun u_2 σ_8 =>
  Do (aBin Go.Proofs.Try.prog .eql 26 t38 (.val (.int .i64 0))) fun t40 =>
  Do (aGuard t40 true (loadA true 4 t10 σ_8)) fun t42 =>
  Do (aGuard t40 true (aPureC Go.Proofs.Try.prog 24 [t42])) fun t43 =>
  Do (aGuard t40 true (aUn Go.Proofs.Try.prog .not t43)) fun t44 =>
  Do (aGuard t40 true (aIs t44)) fun t45 =>
  Do (aGuard t45 false (aIs t37)) fun t46 =>
  Do (aGuard t45 false (aBin Go.Proofs.Try.prog .lss 3 t46 (.val (.int .i64 1)))) fun t47 =>
  Do (aGuard t40 true (aPick t45 (.val (.bool true)) t47)) fun t48 =>
  Do (aGuard t40 true (aIs t48)) fun t49 =>
  Do (aGuard t49 false (aIs t37)) fun t50 =>
  Do (aGuard t49 false (aIs t20)) fun t51 =>
  Do (aGuard t49 false (aBuiltin Go.Proofs.Try.prog .len #[25] [t51])) fun t52 =>
  Do (aGuard t49 false (aBin Go.Proofs.Try.prog .gtr 3 t50 t52)) fun t53 =>
  Do (aGuard t40 true (aPick t49 (.val (.bool true)) t53)) fun t54 =>
  Do (aGuard t40 true (aIs t54)) fun t55 =>
  Do (aGuard t55 false (loadA true 4 t10 σ_8)) fun t56 =>
  Do (aGuard t55 false (aPureC Go.Proofs.Try.prog 30 [t56])) fun t57 =>
  Do (aGuard t55 false (aConvBS t57)) fun t58 =>
  Do (aGuard t55 false (aIs t20)) fun t59 =>
  Do (aGuard t55 false (aIs t37)) fun t60 =>
  Do (aGuard t55 false (aSlice .slice 1 t59 none (some t60) none)) fun t61 =>
  Do (aGuard t55 false (aConvBS t61)) fun t62 =>
  Do (aGuard t55 false (aBin Go.Proofs.Try.prog .neq 9 t58 t62)) fun t63 =>
  Do (aGuard t40 true (aPick t55 (.val (.bool true)) t63)) fun t64 =>
  Do (aPick t40 t64 (.val (.bool false))) fun t65 =>
  aCond t65
    (Q (.ret (.val (.bool false))) σ_8)
    (Do (loadA true 4 t2 σ_8) fun t66 =>
  Do (aPureC Go.Proofs.Try.prog 24 [t66]) fun t67 =>
  Do (aUn Go.Proofs.Try.prog .not t67) fun t68 =>
  aCond t68
    (Do (aGuard t13 true (aIs t22)) fun t71 =>
    Do (aGuard t13 true (aBuiltin Go.Proofs.Try.prog .len #[25] [t71])) fun t72 =>
    Do (aGuard t13 true (aBin Go.Proofs.Try.prog .eql 3 t72 (.val (.int .i64 0)))) fun t73 =>
    Do (aPick t13 t73 (.val (.bool false))) fun t74 =>
    Q (.ret t74) σ_8)
    (Do (aGuard t13 true (aIs t32)) fun t77 =>
  Do (aGuard t13 true (aBin Go.Proofs.Try.prog .eql 26 t77 (.val (.int .i64 0)))) fun t78 =>
  Do (aPick t13 t78 (.val (.bool false))) fun t79 =>
  Do (aGuard t79 true (loadA true 4 t7 σ_8)) fun t81 =>
  Do (aGuard t79 true (loadA true 4 t2 σ_8)) fun t82 =>
  Do (aGuard t79 true (aBin Go.Proofs.Try.prog .eql 35 t81 t82)) fun t83 =>
  Do (aPick t79 t83 (.val (.bool false))) fun t84 =>
  Do (aGuard t84 true (aIs t31)) fun t86 =>
  Do (aGuard t84 true (aIs t22)) fun t87 =>
  Do (aGuard t84 true (aBuiltin Go.Proofs.Try.prog .len #[25] [t87])) fun t88 =>
  Do (aGuard t84 true (aBin Go.Proofs.Try.prog .eql 3 t86 t88)) fun t89 =>
  Do (aPick t84 t89 (.val (.bool false))) fun t90 =>
  Q (.ret t90) σ_8))))
theorem law03_EntryBack.eq (a0 a1 : AV) (σ : Store) (Q : AEnd → Store → Prop) : vc (semOf Go.Proofs.Try.prog law03_EntryBack.mark) Go.Proofs.Try.f13.ntmps law03_EntryBack.ann (bodyOf Go.Proofs.Try.f13) (endK [.tmp 4] Q) (argFr [a0, a1]) σ = law03_EntryBack.sh a0 a1 σ Q := by kernel_rfl
theorem law03_EntryBack.go {a0 a1 : AV} {σ : Store} {Q : AEnd → Store → Prop} (h : law03_EntryBack.sh a0 a1 σ Q) : ACalls Go.Proofs.Try.prog 13 [a0, a1] σ Q :=
  acalls_of_eq [.tmp 4] Go.Proofs.Try.func13 (by kernel_rfl) (by kernel_rfl) (by kernel_rfl) (by kernel_rfl) (law03_EntryBack.eq a0 a1 σ Q) h
theorem EntryTells_ok (e : En) (b : List UInt8) (m : SM) (hk : e.key.length ≤ maxLen) (hv : e.val.length ≤ maxLen) (hb : b.length ≤ 140737488355328) : aPure Go.Proofs.Try.prog 12 [e.av, .lst 1 (b.map byt) m] (B true) := by
  refine ACalls.fin (law03_EntryTells.go ?_)
  unfold law03_EntryTells.sh
  have h1 := enB_length (cutE 200 1100 e)
  have h2 : (b.take (min b.length 3000)).length ≤ 3000 := by simp; omega
  have e0 : [] ++ b.take (min b.length 3000) = b.take (min b.length 3000) := List.nil_append _
  repeat' (first | with_reducible apply Stp.go | with_reducible refine imp fun _ => ?_ | (with_reducible refine hyp ?_ ?_; first | assumption | exact leftT_mem (by assumption)) | (with_reducible refine need ?_ ?_; first | trivial | omega | (simp only [List.length_append, List.length_cons, List.length_nil, List.length_map, List.length_take, List.length_drop, List.length_replicate]; omega)) | (with_reducible refine fact ?_ ?_; first | trivial | exact ⟨rfl, rfl⟩ | kernel_rfl) | with_reducible refine choT (by assumption) ?_ | with_reducible refine choF (by assumption) ?_ | with_reducible refine choF' (by assumption) ?_ | (with_reducible refine altT ?_ ?_; first | omega | (simp only [List.length_append, List.length_cons, List.length_nil, List.length_map, List.length_take, List.length_drop, List.length_replicate]; omega)) | with_reducible refine altF ?_ | with_reducible refine all fun _ => ?_ | with_reducible refine both ?_ ?_ | (with_reducible refine choT ?_ ?_; omega) | (with_reducible refine choF ?_ ?_; omega) | with_reducible refine cho (fun _ => ?_) (fun _ => ?_))
  · exact ⟨_, _, _, rfl, Sub.app_nil _, by rw [e0, decide_eq_true rfl], rfl⟩
  all_goals
    exfalso
    rename_i h
    exact h (by first | rfl | rw [e0])
theorem EntryRow_ok (l : List En) (m : SM) (hl : l.length ≤ 100000000000000) : aPure Go.Proofs.Try.prog 14 [.lst 4 (l.map En.av) m] (B true) := by
  refine ACalls.fin (law03_EntryRow.go ?_)
  unfold law03_EntryRow.sh
  obtain ⟨L, hL⟩ : ∃ L, L = (l.take 40).map (cutE 200 1100) := ⟨_, rfl⟩
  have h40 : L.length ≤ 40 := by rw [hL]; simp; omega
  have hlen : ∀ k : List En, (k.flatMap enB).length ≤ 1200 * k.length := by
    intro k
    induction k with
    | nil => simp
    | cons a k ih =>
      have := enB_length a
      rw [List.flatMap_cons, List.length_append, List.length_cons]
      omega
  repeat' (first | with_reducible apply Stp.go | with_reducible refine imp fun _ => ?_ | (with_reducible refine hyp ?_ ?_; first | assumption | exact leftT_mem (by assumption)) | (with_reducible refine need ?_ ?_; first | trivial | omega | (simp only [List.length_append, List.length_cons, List.length_nil, List.length_map, List.length_take, List.length_drop, List.length_replicate]; omega)) | (with_reducible refine fact ?_ ?_; first | trivial | exact ⟨rfl, rfl⟩ | kernel_rfl) | with_reducible refine choT (by assumption) ?_ | with_reducible refine choF (by assumption) ?_ | with_reducible refine choF' (by assumption) ?_ | (with_reducible refine altT ?_ ?_; first | omega | (simp only [List.length_append, List.length_cons, List.length_nil, List.length_map, List.length_take, List.length_drop, List.length_replicate]; omega)) | with_reducible refine altF ?_ | with_reducible refine all fun _ => ?_ | with_reducible refine both ?_ ?_ | (with_reducible refine choT ?_ ?_; omega) | (with_reducible refine choF ?_ ?_; omega) | with_reducible refine cho (fun _ => ?_) (fun _ => ?_))
  rw [← hL] at *
  refine loopI (β := Nat × Value) (fun x => x.1 ≤ L.length) (fun x => [.lst 4 (L.map En.av) .ro, B true, .own x.2 ((L.take x.1).flatMap enB).length, I .i64 (x.1 : Nat)]) (fun x => [.row x.2 5 1 (((L.take x.1).flatMap enB).map byt) 0]) (fun x => L.length - x.1) (0, .slice none 0 0) (Nat.zero_le _) (Sub.nil_own 5 (by decide) _ [_, _] [_]) ?_
  rintro ⟨i, v⟩ hi
  dsimp only at hi ⊢
  have hb := hlen (L.take i)
  have ht : (L.take i).length ≤ i := by simp; omega
  by_cases hlt : i < L.length
  · have he := enB_length (L.getD i default)
    have hs : (L.take (i + 1)).flatMap enB = (L.take i).flatMap enB ++ enB (L.getD i default) := by rw [take_succ_d hlt, List.flatMap_append]; simp
    repeat' (first | with_reducible apply Stp.go | with_reducible refine imp fun _ => ?_ | (with_reducible refine hyp ?_ ?_; first | assumption | exact leftT_mem (by assumption)) | (with_reducible refine need ?_ ?_; first | trivial | omega | (simp only [List.length_append, List.length_cons, List.length_nil, List.length_map, List.length_take, List.length_drop, List.length_replicate]; omega)) | (with_reducible refine fact ?_ ?_; first | trivial | exact ⟨rfl, rfl⟩ | kernel_rfl) | with_reducible refine choT (by assumption) ?_ | with_reducible refine choF (by assumption) ?_ | with_reducible refine choF' (by assumption) ?_ | (with_reducible refine altT ?_ ?_; first | omega | (simp only [List.length_append, List.length_cons, List.length_nil, List.length_map, List.length_take, List.length_drop, List.length_replicate]; omega)) | with_reducible refine altF ?_ | with_reducible refine all fun _ => ?_ | with_reducible refine both ?_ ?_ | (with_reducible refine choT ?_ ?_; omega) | (with_reducible refine choF ?_ ?_; omega) | with_reducible refine cho (fun _ => ?_) (fun _ => ?_))
    rename_i w
    refine again (i + 1, w) (by dsimp only; omega) (by dsimp only; omega) ?_
    dsimp only
    rw [hs]
    exact Sub.refl _ _
  · have e : L.take i = L := List.take_of_length_le (by omega)
    rw [e]
    repeat' (first | with_reducible apply Stp.go | with_reducible refine imp fun _ => ?_ | (with_reducible refine hyp ?_ ?_; first | assumption | exact leftT_mem (by assumption)) | (with_reducible refine need ?_ ?_; first | trivial | omega | (simp only [List.length_append, List.length_cons, List.length_nil, List.length_map, List.length_take, List.length_drop, List.length_replicate]; omega)) | (with_reducible refine fact ?_ ?_; first | trivial | exact ⟨rfl, rfl⟩ | kernel_rfl) | with_reducible refine choT (by assumption) ?_ | with_reducible refine choF (by assumption) ?_ | with_reducible refine choF' (by assumption) ?_ | (with_reducible refine altT ?_ ?_; first | omega | (simp only [List.length_append, List.length_cons, List.length_nil, List.length_map, List.length_take, List.length_drop, List.length_replicate]; omega)) | with_reducible refine altF ?_ | with_reducible refine all fun _ => ?_ | with_reducible refine both ?_ ?_ | (with_reducible refine choT ?_ ?_; omega) | (with_reducible refine choF ?_ ?_; omega) | with_reducible refine cho (fun _ => ?_) (fun _ => ?_))
    refine loopI (β := Nat) (fun i => i ≤ L.length) (fun i => [.lst 4 (L.map En.av) .ro, B true, .lst 1 (((L.drop i).flatMap enB).map byt) .ro, I .i64 (i : Nat)]) (fun _ => []) (fun i => L.length - i) 0 (Nat.zero_le _) (Give.sub) ?_
    intro j hj
    have hb := hlen (L.drop j)
    have ht : (L.drop j).length ≤ 40 := by simp; omega
    by_cases hlt : j < L.length
    · have hd : (L.drop j).flatMap enB = enB (L.getD j default) ++ (L.drop (j + 1)).flatMap enB := by rw [drop_cons_d hlt, List.flatMap_cons]
      by_cases hr : right (L.getD j default) = true
      · have hp := parse_put (L.getD j default) hr ((L.drop (j + 1)).flatMap enB)
        have hel := enR_length hr
        rw [enB_right hr] at hd
        rw [← hd] at hp
        have pV : parseV ((L.drop j).flatMap enB) = L.getD j default := by simp only [parseV, hp]; rfl
        have pN : parseN ((L.drop j).flatMap enB) = (enR (L.getD j default)).length := by simp only [parseN, hp]; rfl
        have pX : parseX ((L.drop j).flatMap enB) = 0 := by simp only [parseX, hp]; rfl
        have pl : ((L.drop j).flatMap enB).length = (enR (L.getD j default)).length + ((L.drop (j + 1)).flatMap enB).length := by rw [hd, List.length_append]
        have hdrop : ((L.drop j).flatMap enB).drop (parseN ((L.drop j).flatMap enB)) = (L.drop (j + 1)).flatMap enB := by rw [pN, hd, List.drop_left]
        repeat' (first | with_reducible apply Stp.go | with_reducible refine imp fun _ => ?_ | (with_reducible refine hyp ?_ ?_; first | assumption | exact leftT_mem (by assumption)) | (with_reducible refine need ?_ ?_; first | trivial | omega | (simp only [List.length_append, List.length_cons, List.length_nil, List.length_map, List.length_take, List.length_drop, List.length_replicate]; omega)) | (with_reducible refine fact ?_ ?_; first | trivial | exact ⟨rfl, rfl⟩ | kernel_rfl) | with_reducible refine choT (by assumption) ?_ | with_reducible refine choF (by assumption) ?_ | with_reducible refine choF' (by assumption) ?_ | (with_reducible refine altT ?_ ?_; first | omega | (simp only [List.length_append, List.length_cons, List.length_nil, List.length_map, List.length_take, List.length_drop, List.length_replicate]; omega)) | with_reducible refine altF ?_ | with_reducible refine all fun _ => ?_ | with_reducible refine both ?_ ?_ | (with_reducible refine choT ?_ ?_; omega) | (with_reducible refine choF ?_ ?_; omega) | with_reducible refine cho (fun _ => ?_) (fun _ => ?_))
        rw [hdrop]
        exact again (j + 1) (by omega) (by omega) (Sub.app_nil _)
      · rw [enB_nil hr, List.nil_append] at hd
        repeat' (first | with_reducible apply Stp.go | with_reducible refine imp fun _ => ?_ | (with_reducible refine hyp ?_ ?_; first | assumption | exact leftT_mem (by assumption)) | (with_reducible refine need ?_ ?_; first | trivial | omega | (simp only [List.length_append, List.length_cons, List.length_nil, List.length_map, List.length_take, List.length_drop, List.length_replicate]; omega)) | (with_reducible refine fact ?_ ?_; first | trivial | exact ⟨rfl, rfl⟩ | kernel_rfl) | with_reducible refine choT (by assumption) ?_ | with_reducible refine choF (by assumption) ?_ | with_reducible refine choF' (by assumption) ?_ | (with_reducible refine altT ?_ ?_; first | omega | (simp only [List.length_append, List.length_cons, List.length_nil, List.length_map, List.length_take, List.length_drop, List.length_replicate]; omega)) | with_reducible refine altF ?_ | with_reducible refine all fun _ => ?_ | with_reducible refine both ?_ ?_ | (with_reducible refine choT ?_ ?_; omega) | (with_reducible refine choF ?_ ?_; omega) | with_reducible refine cho (fun _ => ?_) (fun _ => ?_))
        rw [hd]
        exact again (j + 1) (by omega) (by omega) (Sub.refl _ _)
    · have e : L.drop j = [] := List.drop_eq_nil_of_le (by omega)
      rw [e]
      repeat' (first | with_reducible apply Stp.go | with_reducible refine imp fun _ => ?_ | (with_reducible refine hyp ?_ ?_; first | assumption | exact leftT_mem (by assumption)) | (with_reducible refine need ?_ ?_; first | trivial | omega | (simp only [List.length_append, List.length_cons, List.length_nil, List.length_map, List.length_take, List.length_drop, List.length_replicate]; omega)) | (with_reducible refine fact ?_ ?_; first | trivial | exact ⟨rfl, rfl⟩ | kernel_rfl) | with_reducible refine choT (by assumption) ?_ | with_reducible refine choF (by assumption) ?_ | with_reducible refine choF' (by assumption) ?_ | (with_reducible refine altT ?_ ?_; first | omega | (simp only [List.length_append, List.length_cons, List.length_nil, List.length_map, List.length_take, List.length_drop, List.length_replicate]; omega)) | with_reducible refine altF ?_ | with_reducible refine all fun _ => ?_ | with_reducible refine both ?_ ?_ | (with_reducible refine choT ?_ ?_; omega) | (with_reducible refine choF ?_ ?_; omega) | with_reducible refine cho (fun _ => ?_) (fun _ => ?_))
      exact ⟨_, _, _, rfl, Sub.refl _ _, rfl, rfl⟩
theorem EntryBack_ok (e0 : En) (b : List UInt8) (m : SM) (hk : e0.key.length ≤ maxLen) (hv : e0.val.length ≤ maxLen) (hb : b.length ≤ 140737488355328) : aPure Go.Proofs.Try.prog 13 [e0.av, .lst 1 (b.map byt) m] (B true) := by
  refine ACalls.fin (law03_EntryBack.go ?_)
  unfold law03_EntryBack.sh
  obtain ⟨e, he⟩ : ∃ e, e = cutE 200 1100 e0 := ⟨_, rfl⟩
  obtain ⟨s, hs⟩ : ∃ s, s = b.take (min b.length 2000) := ⟨_, rfl⟩
  have h1 := enB_length e
  have h2 : s.length ≤ 2000 := by rw [hs]; simp; omega
  have hpb := fun (h : parseX s = 0) => (show right (parseV s) = true ∧ 1 ≤ parseN s ∧ parseN s ≤ s.length ∧ enB (parseV s) = s.take (parseN s) from by
    unfold parseX at h
    split at h
    · rename_i hi
      obtain ⟨⟨y, n⟩, hy⟩ := Option.isSome_iff_exists.1 hi
      obtain ⟨g1, g2, g3, g4⟩ := parse_back hy
      have pV : parseV s = y := by simp only [parseV, hy]; rfl
      have pN : parseN s = n := by simp only [parseN, hy]; rfl
      rw [pV, pN, enB_right g1]
      exact ⟨g1, g2, g3, g4⟩
    · cases h)
  have hpp := fun (h : right e = true) => parse_put e h s
  have hen := fun (h : right e = true) => enB_right h
  repeat' (first | with_reducible apply Stp.go | with_reducible refine imp fun _ => ?_ | (with_reducible refine hyp ?_ ?_; first | assumption | exact leftT_mem (by assumption)) | (with_reducible refine need ?_ ?_; first | trivial | omega | (simp only [List.length_append, List.length_cons, List.length_nil, List.length_map, List.length_take, List.length_drop, List.length_replicate]; omega)) | (with_reducible refine fact ?_ ?_; first | trivial | exact ⟨rfl, rfl⟩ | kernel_rfl) | with_reducible refine choT (by assumption) ?_ | with_reducible refine choF (by assumption) ?_ | with_reducible refine choF' (by assumption) ?_ | (with_reducible refine altT ?_ ?_; first | omega | (simp only [List.length_append, List.length_cons, List.length_nil, List.length_map, List.length_take, List.length_drop, List.length_replicate]; omega)) | with_reducible refine altF ?_ | with_reducible refine all fun _ => ?_ | with_reducible refine both ?_ ?_ | (with_reducible refine choT ?_ ?_; omega) | (with_reducible refine choF ?_ ?_; omega) | with_reducible refine cho (fun _ => ?_) (fun _ => ?_))
  all_goals try rw [← he] at *
  all_goals try rw [← hs] at *
  by_cases hr : right e = true
  · have hp := hpp hr
    rw [← hen hr, ← List.nil_append (enB e)] at hp
    have pV : parseV ([] ++ enB e ++ s) = e := by simp only [parseV, hp]; rfl
    have pN : parseN ([] ++ enB e ++ s) = ([] ++ enB e).length := by simp only [parseN, hp]; rfl
    have pX : parseX ([] ++ enB e ++ s) = 0 := by simp only [parseX, hp]; rfl
    by_cases hx : parseX s = 0
    · obtain ⟨g1, g2, g3, g4⟩ := hpb hx
      repeat' (first | with_reducible apply Stp.go | with_reducible refine imp fun _ => ?_ | (with_reducible refine hyp ?_ ?_; first | assumption | exact leftT_mem (by assumption)) | (with_reducible refine need ?_ ?_; first | trivial | omega | (simp only [List.length_append, List.length_cons, List.length_nil, List.length_map, List.length_take, List.length_drop, List.length_replicate]; omega)) | (with_reducible refine fact ?_ ?_; first | trivial | exact ⟨rfl, rfl⟩ | kernel_rfl) | with_reducible refine choT (by assumption) ?_ | with_reducible refine choF (by assumption) ?_ | with_reducible refine choF' (by assumption) ?_ | (with_reducible refine altT ?_ ?_; first | omega | (simp only [List.length_append, List.length_cons, List.length_nil, List.length_map, List.length_take, List.length_drop, List.length_replicate]; omega)) | with_reducible refine altF ?_ | with_reducible refine all fun _ => ?_ | with_reducible refine both ?_ ?_ | (with_reducible refine choT ?_ ?_; omega) | (with_reducible refine choF ?_ ?_; omega) | with_reducible refine cho (fun _ => ?_) (fun _ => ?_))
      have hd : parseN ([] ++ enB e ++ s) = (enB e).length := by rw [pN, List.nil_append]
      exact ⟨_, _, _, rfl, Sub.app_nil _, by rw [decide_eq_true hd], rfl⟩
    · repeat' (first | with_reducible apply Stp.go | with_reducible refine imp fun _ => ?_ | (with_reducible refine hyp ?_ ?_; first | assumption | exact leftT_mem (by assumption)) | (with_reducible refine need ?_ ?_; first | trivial | omega | (simp only [List.length_append, List.length_cons, List.length_nil, List.length_map, List.length_take, List.length_drop, List.length_replicate]; omega)) | (with_reducible refine fact ?_ ?_; first | trivial | exact ⟨rfl, rfl⟩ | kernel_rfl) | with_reducible refine choT (by assumption) ?_ | with_reducible refine choF (by assumption) ?_ | with_reducible refine choF' (by assumption) ?_ | (with_reducible refine altT ?_ ?_; first | omega | (simp only [List.length_append, List.length_cons, List.length_nil, List.length_map, List.length_take, List.length_drop, List.length_replicate]; omega)) | with_reducible refine altF ?_ | with_reducible refine all fun _ => ?_ | with_reducible refine both ?_ ?_ | (with_reducible refine choT ?_ ?_; omega) | (with_reducible refine choF ?_ ?_; omega) | with_reducible refine cho (fun _ => ?_) (fun _ => ?_))
      have hd : parseN ([] ++ enB e ++ s) = (enB e).length := by rw [pN, List.nil_append]
      exact ⟨_, _, _, rfl, Sub.app_nil _, by rw [decide_eq_true hd], rfl⟩
  · have hn := enB_nil hr
    have hn0 : (enB e).length = 0 := by rw [hn]; rfl
    by_cases hx : parseX s = 0
    · obtain ⟨g1, g2, g3, g4⟩ := hpb hx
      repeat' (first | with_reducible apply Stp.go | with_reducible refine imp fun _ => ?_ | (with_reducible refine hyp ?_ ?_; first | assumption | exact leftT_mem (by assumption)) | (with_reducible refine need ?_ ?_; first | trivial | omega | (simp only [List.length_append, List.length_cons, List.length_nil, List.length_map, List.length_take, List.length_drop, List.length_replicate]; omega)) | (with_reducible refine fact ?_ ?_; first | trivial | exact ⟨rfl, rfl⟩ | kernel_rfl) | with_reducible refine choT (by assumption) ?_ | with_reducible refine choF (by assumption) ?_ | with_reducible refine choF' (by assumption) ?_ | (with_reducible refine altT ?_ ?_; first | omega | (simp only [List.length_append, List.length_cons, List.length_nil, List.length_map, List.length_take, List.length_drop, List.length_replicate]; omega)) | with_reducible refine altF ?_ | with_reducible refine all fun _ => ?_ | with_reducible refine both ?_ ?_ | (with_reducible refine choT ?_ ?_; omega) | (with_reducible refine choF ?_ ?_; omega) | with_reducible refine cho (fun _ => ?_) (fun _ => ?_))
      exact ⟨_, _, _, rfl, Sub.app_nil _, by rw [decide_eq_true hn0], rfl⟩
    · repeat' (first | with_reducible apply Stp.go | with_reducible refine imp fun _ => ?_ | (with_reducible refine hyp ?_ ?_; first | assumption | exact leftT_mem (by assumption)) | (with_reducible refine need ?_ ?_; first | trivial | omega | (simp only [List.length_append, List.length_cons, List.length_nil, List.length_map, List.length_take, List.length_drop, List.length_replicate]; omega)) | (with_reducible refine fact ?_ ?_; first | trivial | exact ⟨rfl, rfl⟩ | kernel_rfl) | with_reducible refine choT (by assumption) ?_ | with_reducible refine choF (by assumption) ?_ | with_reducible refine choF' (by assumption) ?_ | (with_reducible refine altT ?_ ?_; first | omega | (simp only [List.length_append, List.length_cons, List.length_nil, List.length_map, List.length_take, List.length_drop, List.length_replicate]; omega)) | with_reducible refine altF ?_ | with_reducible refine all fun _ => ?_ | with_reducible refine both ?_ ?_ | (with_reducible refine choT ?_ ?_; omega) | (with_reducible refine choF ?_ ?_; omega) | with_reducible refine cho (fun _ => ?_) (fun _ => ?_))
      exact ⟨_, _, _, rfl, Sub.app_nil _, by rw [decide_eq_true hn0], rfl⟩
end Go.Ab
