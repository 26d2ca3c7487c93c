/- The law EntryFolds: what its function does. -/
import Derived.Test.YtopmpooglnfalaaF10
import Derived.Test.YtopmpooglnfalaaSp5
set_option linter.unusedVariables false
set_option linter.unusedSimpArgs false
namespace Go.Ab
def law03_EntryFolds.mark : Mark := ⟨fun t => Nat.beq t 14 || Nat.beq t 16 || Nat.beq t 18 || Nat.beq t 30 || Nat.beq t 35 || Nat.beq t 38 || Nat.beq t 40 || Nat.beq t 42 || Nat.beq t 44 || Nat.beq t 58 || Nat.beq t 98, fun t => Nat.beq t 26, fun t => false, fun t => Nat.beq t 57 || Nat.beq t 74 || Nat.beq t 79 || Nat.beq t 87 || Nat.beq t 92, fun t => false⟩
def law03_EntryFolds.ann : Ann := ⟨fun n => bif Nat.beq n 11 then [0, 5, 6, 9, 10, 11] else [], fun n => bif Nat.beq n 7 then some [0, 5, 6, 7] else none, fun n => none⟩
/-- 'marlstone/marlstonelaw03.EntryFolds' -/
def law03_EntryFolds.sh (a0 a1 : AV) (σ : Store) (Q : AEnd → Store → Prop) : Prop :=
  Do (aPureC Go.Proofs.Try.prog 29 []) fun t14 =>
  Do (aPureC Go.Proofs.Try.prog 32 [a0, (.val (.int .i64 60))]) fun t16 =>
  Do (aPureC Go.Proofs.Try.prog 31 [t16]) fun t18 =>
  aJoin (fun j =>
    Do (aBin Go.Proofs.Try.prog .gtr 3 a1 (.val (.int .i64 0))) fun t20 =>
    aCond t20
      (Do (aBuiltin Go.Proofs.Try.prog .len #[22] [t16]) fun t23 =>
      Do (aBin Go.Proofs.Try.prog .add 3 t23 (.val (.int .i64 1))) fun t24 =>
      Do (aBin Go.Proofs.Try.prog .rem 3 a1 t24) fun t25 =>
      j [t16, t14, t18, t25] σ)
      (j [t16, t14, t18, (.val (.int .i64 0))] σ)) fun vs σ =>
  At vs 0 fun s0 => At vs 1 fun s5 => At vs 2 fun s6 => At vs 3 fun s7 => Do (aSlice .slice 4 s0 none (some s7) none) fun t29 =>
  Do (aPureC Go.Proofs.Try.prog 31 [t29]) fun t30 =>
  Do (aSlice .slice 4 s0 (some s7) none none) fun t34 =>
  aRowL 35 (mkE [.val (.string ⟨#[]⟩), .val (.string ⟨#[]⟩), .val (.bool false), .val (.int .i64 0)]) 4 0 [] σ fun t26 σ_1 =>
  aAppend 35 4 48 t26 t30 σ_1 (subK fun t31 σ_2 =>
  Do (aPureC Go.Proofs.Try.prog 31 [t34]) fun t35 =>
  aAppend 35 4 48 t31 t35 σ_2 (subF fun t36 σ_3 =>
  Do (aPureC Go.Proofs.Try.prog 31 [s6]) fun t38 =>
  Do (aPureC Go.Proofs.Try.prog 22 [t38, s6]) fun t40 =>
  Do (aPureC Go.Proofs.Try.prog 31 [t36]) fun t42 =>
  Do (aPureC Go.Proofs.Try.prog 22 [t42, s6]) fun t44 =>
  aLoop (fun go vs_1 σ_4 =>
    At vs_1 0 fun s0_1 => At vs_1 1 fun s5_1 => At vs_1 2 fun s6_1 => At vs_1 3 fun s9 => At vs_1 4 fun s10 => At vs_1 5 fun s11 => Do (aBuiltin Go.Proofs.Try.prog .len #[22] [s0_1]) fun t47 =>
    Do (aBin Go.Proofs.Try.prog .lss 3 s11 t47) fun t48 =>
    aCond t48
      (Do (aIndexAddr .slice 4 s0_1 s11) fun t55 =>
    Do (aFieldAddr 0 1 t55) fun t56 =>
    Do (loadF false 1 t56) fun t57 =>
    Do (aPureC Go.Proofs.Try.prog 33 [s6_1, t57]) fun t58 =>
    Do (aExt t58 0) fun t59 =>
    Do (aExt t58 1) fun t60 =>
    Do (aUn Go.Proofs.Try.prog .not t60) fun t62 =>
    Do (aGuard t62 false (aIs t59)) fun t64 =>
    Do (aGuard t62 false (aIs s6_1)) fun t65 =>
    Do (aGuard t62 false (aBuiltin Go.Proofs.Try.prog .len #[22] [t65])) fun t66 =>
    Do (aGuard t62 false (aBin Go.Proofs.Try.prog .geq 3 t64 t66)) fun t67 =>
    Do (aPick t62 (.val (.bool true)) t67) fun t68 =>
    Do (aGuard t68 false (aIs s6_1)) fun t70 =>
    Do (aGuard t68 false (aIs t59)) fun t71 =>
    Do (aGuard t68 false (aIndexAddr .slice 4 t70 t71)) fun t72 =>
    Do (aGuard t68 false (aFieldAddr 0 1 t72)) fun t73 =>
    Do (aGuard t68 false (loadF false 1 t73)) fun t74 =>
    Do (aGuard t68 false (aIs s0_1)) fun t75 =>
    Do (aGuard t68 false (aIs s11)) fun t76 =>
    Do (aGuard t68 false (aIndexAddr .slice 4 t75 t76)) fun t77 =>
    Do (aGuard t68 false (aFieldAddr 0 1 t77)) fun t78 =>
    Do (aGuard t68 false (loadF false 1 t78)) fun t79 =>
    Do (aGuard t68 false (aBin Go.Proofs.Try.prog .neq 9 t74 t79)) fun t80 =>
    Do (aPick t68 (.val (.bool true)) t80) fun t81 =>
    Do (aGuard t81 false (aIs s6_1)) fun t83 =>
    Do (aGuard t81 false (aIs t59)) fun t84 =>
    Do (aGuard t81 false (aIndexAddr .slice 4 t83 t84)) fun t85 =>
    Do (aGuard t81 false (aFieldAddr 3 1 t85)) fun t86 =>
    Do (aGuard t81 false (loadF false 1 t86)) fun t87 =>
    Do (aGuard t81 false (aIs s0_1)) fun t88 =>
    Do (aGuard t81 false (aIs s11)) fun t89 =>
    Do (aGuard t81 false (aIndexAddr .slice 4 t88 t89)) fun t90 =>
    Do (aGuard t81 false (aFieldAddr 3 1 t90)) fun t91 =>
    Do (aGuard t81 false (loadF false 1 t91)) fun t92 =>
    Do (aGuard t81 false (aBin Go.Proofs.Try.prog .lss 3 t87 t92)) fun t93 =>
    Do (aPick t81 (.val (.bool true)) t93) fun t94 =>
    aCond t94
      (Q (.ret (.val (.bool false))) σ_4)
      (Do (aBin Go.Proofs.Try.prog .add 3 s11 (.val (.int .i64 1))) fun t50 =>
    go [s0_1, s5_1, s6_1, s9, s10, t50] σ_4))
      (Do (aGuard s5_1 true (aIs s6_1)) fun t97 =>
  Do (aGuard s5_1 true (aPureC Go.Proofs.Try.prog 23 [t97])) fun t98 =>
  Do (aPick s5_1 t98 (.val (.bool false))) fun t99 =>
  Do (aGuard t99 true (aIs s9)) fun t101 =>
  Do (aPick t99 t101 (.val (.bool false))) fun t102 =>
  Do (aGuard t102 true (aIs s10)) fun t104 =>
  Do (aPick t102 t104 (.val (.bool false))) fun t105 =>
  Q (.ret t105) σ_4))
    [s0, s5, s6, t40, t44, (.val (.int .i64 0))] σ_3))
theorem law03_EntryFolds.eq (a0 a1 : AV) (σ : Store) (Q : AEnd → Store → Prop) : vc (semOf Go.Proofs.Try.prog law03_EntryFolds.mark) Go.Proofs.Try.f9.ntmps law03_EntryFolds.ann (bodyOf Go.Proofs.Try.f9) (endK [.tmp 4] Q) (argFr [a0, a1]) σ = law03_EntryFolds.sh a0 a1 σ Q := by kernel_rfl
theorem law03_EntryFolds.go {a0 a1 : AV} {σ : Store} {Q : AEnd → Store → Prop} (h : law03_EntryFolds.sh a0 a1 σ Q) : ACalls Go.Proofs.Try.prog 9 [a0, a1] σ Q :=
  acalls_of_eq [.tmp 4] Go.Proofs.Try.func9 (by kernel_rfl) (by kernel_rfl) (by kernel_rfl) (by kernel_rfl) (law03_EntryFolds.eq a0 a1 σ Q) h
theorem EntryFolds_ok (l : List En) (m : SM) (a : Int) (hl : l.length ≤ 100000000000000) (ha : (Lit.int .i64 a).wf = true) : aPure Go.Proofs.Try.prog 9 [.lst 4 (l.map En.av) m, I .i64 a] (B true) := by
  refine law03_EntryFolds.go ?_
  unfold law03_EntryFolds.sh
  obtain ⟨L, hL⟩ : ∃ L, L = (l.take 60).map (cutE 200 1100) := ⟨_, rfl⟩
  have h60 : L.length ≤ 60 := by rw [hL]; simp; omega
  repeat' (first | with_reducible apply Stp.go | with_reducible refine imp fun _ => ?_ | (with_reducible refine hyp ?_ ?_; first | assumption | exact leftT_mem (by assumption)) | (with_reducible refine need ?_ ?_; first | trivial | omega | (simp only [List.length_append, List.length_cons, List.length_nil, List.length_map, List.length_take, List.length_drop, List.length_replicate]; omega)) | (with_reducible refine fact ?_ ?_; first | trivial | exact ⟨rfl, rfl⟩ | kernel_rfl) | with_reducible refine choT (by assumption) ?_ | with_reducible refine choF (by assumption) ?_ | with_reducible refine choF' (by assumption) ?_ | (with_reducible refine altT ?_ ?_; first | omega | (simp only [List.length_append, List.length_cons, List.length_nil, List.length_map, List.length_take, List.length_drop, List.length_replicate]; omega)) | with_reducible refine altF ?_ | with_reducible refine all fun _ => ?_ | with_reducible refine both ?_ ?_ | (with_reducible refine choT ?_ ?_; omega) | (with_reducible refine choF ?_ ?_; omega) | with_reducible refine cho (fun _ => ?_) (fun _ => ?_))
  rw [← hL] at *
  refine joinI (β := Nat) (fun p => p ≤ L.length) (fun p => [.lst 4 (L.map En.av) .ro, B true, .lst 4 ((foldE L).map En.av) .ro, I .i64 (p : Nat)]) (fun _ => []) ?_ ?_
  · rcases Int.lt_or_le 0 a with h | h
    · obtain ⟨n, rfl⟩ : ∃ n : Nat, a = n := ⟨a.toNat, by omega⟩
      have hm : n % (L.length + 1) < L.length + 1 := Nat.mod_lt _ (by omega)
      repeat' (first | with_reducible apply Stp.go | with_reducible refine imp fun _ => ?_ | (with_reducible refine hyp ?_ ?_; first | assumption | exact leftT_mem (by assumption)) | (with_reducible refine need ?_ ?_; first | trivial | omega | (simp only [List.length_append, List.length_cons, List.length_nil, List.length_map, List.length_take, List.length_drop, List.length_replicate]; omega)) | (with_reducible refine fact ?_ ?_; first | trivial | exact ⟨rfl, rfl⟩ | kernel_rfl) | with_reducible refine choT (by assumption) ?_ | with_reducible refine choF (by assumption) ?_ | with_reducible refine choF' (by assumption) ?_ | (with_reducible refine altT ?_ ?_; first | omega | (simp only [List.length_append, List.length_cons, List.length_nil, List.length_map, List.length_take, List.length_drop, List.length_replicate]; omega)) | with_reducible refine altF ?_ | with_reducible refine all fun _ => ?_ | with_reducible refine both ?_ ?_ | (with_reducible refine choT ?_ ?_; omega) | (with_reducible refine choF ?_ ?_; omega) | with_reducible refine cho (fun _ => ?_) (fun _ => ?_))
      exact meet (n % (L.length + 1)) (by omega) (Sub.refl _ _)
    · repeat' (first | with_reducible apply Stp.go | with_reducible refine imp fun _ => ?_ | (with_reducible refine hyp ?_ ?_; first | assumption | exact leftT_mem (by assumption)) | (with_reducible refine need ?_ ?_; first | trivial | omega | (simp only [List.length_append, List.length_cons, List.length_nil, List.length_map, List.length_take, List.length_drop, List.length_replicate]; omega)) | (with_reducible refine fact ?_ ?_; first | trivial | exact ⟨rfl, rfl⟩ | kernel_rfl) | with_reducible refine choT (by assumption) ?_ | with_reducible refine choF (by assumption) ?_ | with_reducible refine choF' (by assumption) ?_ | (with_reducible refine altT ?_ ?_; first | omega | (simp only [List.length_append, List.length_cons, List.length_nil, List.length_map, List.length_take, List.length_drop, List.length_replicate]; omega)) | with_reducible refine altF ?_ | with_reducible refine all fun _ => ?_ | with_reducible refine both ?_ ?_ | (with_reducible refine choT ?_ ?_; omega) | (with_reducible refine choF ?_ ?_; omega) | with_reducible refine cho (fun _ => ?_) (fun _ => ?_))
      exact meet 0 (Nat.zero_le _) (Sub.refl _ _)
  · intro p hp
    have f1 := foldE_length L
    have f2 := foldE_length (L.take p)
    have f3 := foldE_length (L.drop p)
    have f4 : (L.take p).length ≤ L.length := by simp; omega
    have f5 : (L.drop p).length ≤ L.length := by simp
    have f6 := foldE_length (foldE L)
    have f7 := foldE_length ([] ++ foldE (L.take p) ++ foldE (L.drop p))
    have f8 : ([] ++ foldE (L.take p) ++ foldE (L.drop p)).length ≤ 2 * L.length := by simp only [List.length_append, List.length_nil]; omega
    have e1 := foldE_fold L
    have e2 : foldE ([] ++ foldE (L.take p) ++ foldE (L.drop p)) = foldE L := by rw [List.nil_append, foldE_parts, List.take_append_drop]
    have e3 := foldE_sorted L
    repeat' (first | with_reducible apply Stp.go | with_reducible refine imp fun _ => ?_ | (with_reducible refine hyp ?_ ?_; first | assumption | exact leftT_mem (by assumption)) | (with_reducible refine need ?_ ?_; first | trivial | omega | (simp only [List.length_append, List.length_cons, List.length_nil, List.length_map, List.length_take, List.length_drop, List.length_replicate]; omega)) | (with_reducible refine fact ?_ ?_; first | trivial | exact ⟨rfl, rfl⟩ | kernel_rfl) | with_reducible refine choT (by assumption) ?_ | with_reducible refine choF (by assumption) ?_ | with_reducible refine choF' (by assumption) ?_ | (with_reducible refine altT ?_ ?_; first | omega | (simp only [List.length_append, List.length_cons, List.length_nil, List.length_map, List.length_take, List.length_drop, List.length_replicate]; omega)) | with_reducible refine altF ?_ | with_reducible refine all fun _ => ?_ | with_reducible refine both ?_ ?_ | (with_reducible refine choT ?_ ?_; omega) | (with_reducible refine choF ?_ ?_; omega) | with_reducible refine cho (fun _ => ?_) (fun _ => ?_))
    rw [decide_eq_true e1, decide_eq_true e2]
    have hhas := fun (e : En) (h : e ∈ L) => foldE_has h
    generalize hFe : foldE L = F at *
    refine loopI (β := Nat) (fun i => i ≤ L.length) (fun i => [.lst 4 (L.map En.av) .ro, B true, .lst 4 (F.map En.av) .ro, B true, B true, I .i64 (i : Nat)]) (fun _ => []) (fun i => L.length - i) 0 (Nat.zero_le _) (Sub.refl _ _) ?_
    intro i hi
    by_cases hlt : i < L.length
    · have hmem : L.getD i default ∈ L := by
        rw [List.getD_eq_getElem?_getD, List.getElem?_eq_getElem hlt]
        exact List.getElem_mem hlt
      obtain ⟨g1, g2, g3, g4⟩ := hhas _ hmem
      repeat' (first | with_reducible apply Stp.go | with_reducible refine imp fun _ => ?_ | (with_reducible refine hyp ?_ ?_; first | assumption | exact leftT_mem (by assumption)) | (with_reducible refine need ?_ ?_; first | trivial | omega | (simp only [List.length_append, List.length_cons, List.length_nil, List.length_map, List.length_take, List.length_drop, List.length_replicate]; omega)) | (with_reducible refine fact ?_ ?_; first | trivial | exact ⟨rfl, rfl⟩ | kernel_rfl) | with_reducible refine choT (by assumption) ?_ | with_reducible refine choF (by assumption) ?_ | with_reducible refine choF' (by assumption) ?_ | (with_reducible refine altT ?_ ?_; first | omega | (simp only [List.length_append, List.length_cons, List.length_nil, List.length_map, List.length_take, List.length_drop, List.length_replicate]; omega)) | with_reducible refine altF ?_ | with_reducible refine all fun _ => ?_ | with_reducible refine both ?_ ?_ | (with_reducible refine choT ?_ ?_; omega) | (with_reducible refine choF ?_ ?_; omega) | with_reducible refine cho (fun _ => ?_) (fun _ => ?_))
      exact again (i + 1) (by omega) (by omega) (Sub.refl _ _)
    · repeat' (first | with_reducible apply Stp.go | with_reducible refine imp fun _ => ?_ | (with_reducible refine hyp ?_ ?_; first | assumption | exact leftT_mem (by assumption)) | (with_reducible refine need ?_ ?_; first | trivial | omega | (simp only [List.length_append, List.length_cons, List.length_nil, List.length_map, List.length_take, List.length_drop, List.length_replicate]; omega)) | (with_reducible refine fact ?_ ?_; first | trivial | exact ⟨rfl, rfl⟩ | kernel_rfl) | with_reducible refine choT (by assumption) ?_ | with_reducible refine choF (by assumption) ?_ | with_reducible refine choF' (by assumption) ?_ | (with_reducible refine altT ?_ ?_; first | omega | (simp only [List.length_append, List.length_cons, List.length_nil, List.length_map, List.length_take, List.length_drop, List.length_replicate]; omega)) | with_reducible refine altF ?_ | with_reducible refine all fun _ => ?_ | with_reducible refine both ?_ ?_ | (with_reducible refine choT ?_ ?_; omega) | (with_reducible refine choF ?_ ?_; omega) | with_reducible refine cho (fun _ => ?_) (fun _ => ?_))
      exact ⟨rfl, rfl⟩
end Go.Ab
