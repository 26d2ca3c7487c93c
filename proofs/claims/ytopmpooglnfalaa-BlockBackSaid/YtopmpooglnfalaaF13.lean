/- The law EntryLists: what its function does. -/
import Derived.Test.YtopmpooglnfalaaF12
set_option linter.unusedVariables false
set_option linter.unusedSimpArgs false
namespace Go.Ab
def law03_EntryLists.mark : Mark := ⟨fun t => Nat.beq t 17 || Nat.beq t 19 || Nat.beq t 27 || Nat.beq t 30 || Nat.beq t 33 || Nat.beq t 34 || Nat.beq t 48 || Nat.beq t 54 || Nat.beq t 59 || Nat.beq t 82 || Nat.beq t 84, fun t => Nat.beq t 20, fun t => false, fun t => false, fun t => Nat.beq t 28⟩
def law03_EntryLists.ann : Ann := ⟨fun n => bif Nat.beq n 9 then [0, 1, 5, 6, 7, 8, 10, 11] else [], fun n => none, fun n => none⟩
/-- 'marlstone/marlstonelaw03.EntryLists' -/
def law03_EntryLists.sh (a0 a1 : AV) (σ : Store) (Q : AEnd → Store → Prop) : Prop :=
  Do (aPureC Go.Proofs.Try.prog 29 []) fun t17 =>
  Do (aPureC Go.Proofs.Try.prog 32 [a0, (.val (.int .i64 100))]) fun t19 =>
  aRowL 35 (mkE [.val (.string ⟨#[]⟩), .val (.string ⟨#[]⟩), .val (.bool false), .val (.int .i64 0)]) 4 0 [] σ fun t20 σ =>
  aAppend 35 4 48 t20 t19 σ (subF fun t22 σ_1 =>
  aCall Go.Proofs.Try.prog 31 [t22] σ_1 (fun t24 σ_2 =>
  Do (aPureC Go.Proofs.Try.prog 34 [t19]) fun t27 =>
  Do (lookC Go.Proofs.Try.prog 22 [t24, t27] σ_2) fun t28 =>
  Do (aPureC Go.Proofs.Try.prog 35 [t22]) fun t30 =>
  Do (aPureC Go.Proofs.Try.prog 36 [t19]) fun t33 =>
  Do (aPureC Go.Proofs.Try.prog 22 [t30, t33]) fun t34 =>
  aLoop (fun go vs σ_3 =>
    At vs 0 fun s0 => At vs 1 fun s1 => At vs 2 fun s5 => At vs 3 fun s6 => At vs 4 fun s7 => At vs 5 fun s8 => At vs 6 fun s10 => At vs 7 fun s11 => Do (aBuiltin Go.Proofs.Try.prog .len #[22] [s7]) fun t37 =>
    Do (aBin Go.Proofs.Try.prog .lss 3 s11 t37) fun t38 =>
    aCond t38
      (Do (aIndexAddr .slice 4 s7 s11) fun t43 =>
    Do (aFieldAddr 0 1 t43) fun t44 =>
    storeA 1 t44 (.val (.string ⟨#[63]⟩)) σ_3 fun u σ_4 =>
    Do (aBin Go.Proofs.Try.prog .add 3 s11 (.val (.int .i64 1))) fun t40 =>
    go [s0, s1, s5, s6, s7, s8, s10, t40] σ_4)
      (Do (aPureC Go.Proofs.Try.prog 33 [s6, s1]) fun t48 =>
  Do (aExt t48 0) fun t49 =>
  Do (aExt t48 1) fun t50 =>
  Do (aPureC Go.Proofs.Try.prog 37 [s0, s1]) fun t54 =>
  Do (aExt t54 0) fun t55 =>
  Do (aExt t54 1) fun t56 =>
  Do (aPureC Go.Proofs.Try.prog 22 [s6, s0]) fun t59 =>
  Do (aGuard s5 true (aIs s8)) fun t62 =>
  Do (aPick s5 t62 (.val (.bool false))) fun t63 =>
  Do (aGuard t63 true (aIs s10)) fun t65 =>
  Do (aPick t63 t65 (.val (.bool false))) fun t66 =>
  Do (aGuard t66 true (aIs t59)) fun t68 =>
  Do (aPick t66 t68 (.val (.bool false))) fun t69 =>
  Do (aGuard t69 true (aIs t49)) fun t71 =>
  Do (aGuard t69 true (aIs t55)) fun t72 =>
  Do (aGuard t69 true (aBin Go.Proofs.Try.prog .eql 3 t71 t72)) fun t73 =>
  Do (aPick t69 t73 (.val (.bool false))) fun t74 =>
  Do (aGuard t74 true (aIs t50)) fun t76 =>
  Do (aGuard t74 true (aIs t56)) fun t77 =>
  Do (aGuard t74 true (aBin Go.Proofs.Try.prog .eql 4 t76 t77)) fun t78 =>
  Do (aPick t74 t78 (.val (.bool false))) fun t79 =>
  Do (aGuard t79 true (aIs s6)) fun t81 =>
  Do (aGuard t79 true (aPureC Go.Proofs.Try.prog 23 [t81])) fun t82 =>
  Do (aGuard t79 true (aIs s0)) fun t83 =>
  Do (aGuard t79 true (aPureC Go.Proofs.Try.prog 38 [t83])) fun t84 =>
  Do (aGuard t79 true (aBin Go.Proofs.Try.prog .eql 4 t82 t84)) fun t85 =>
  Do (aPick t79 t85 (.val (.bool false))) fun t86 =>
  Q (.ret t86) σ_3))
    [t19, a1, t17, t22, t24, t28, t34, (.val (.int .i64 0))] σ_2) (fun e σ_5 => Q (.pan e) σ_5))
theorem law03_EntryLists.eq (a0 a1 : AV) (σ : Store) (Q : AEnd → Store → Prop) : vc (semOf Go.Proofs.Try.prog law03_EntryLists.mark) Go.Proofs.Try.f10.ntmps law03_EntryLists.ann (bodyOf Go.Proofs.Try.f10) (endK [.tmp 4] Q) (argFr [a0, a1]) σ = law03_EntryLists.sh a0 a1 σ Q := by kernel_rfl
theorem law03_EntryLists.go {a0 a1 : AV} {σ : Store} {Q : AEnd → Store → Prop} (h : law03_EntryLists.sh a0 a1 σ Q) : ACalls Go.Proofs.Try.prog 10 [a0, a1] σ Q :=
  acalls_of_eq [.tmp 4] Go.Proofs.Try.func10 (by kernel_rfl) (by kernel_rfl) (by kernel_rfl) (by kernel_rfl) (law03_EntryLists.eq a0 a1 σ Q) h
theorem EntryLists_ok (l : List En) (m : SM) (k : List UInt8) (hl : l.length ≤ 100000000000000) (hk : k.length ≤ 140737488355328) : aPure Go.Proofs.Try.prog 10 [.lst 4 (l.map En.av) m, S k] (B true) := by
  refine ACalls.fin (law03_EntryLists.go ?_)
  unfold law03_EntryLists.sh
  obtain ⟨L, hL⟩ : ∃ L, L = (l.take 100).map (cutE 200 1100) := ⟨_, rfl⟩
  have h100 : L.length ≤ 100 := by rw [hL]; simp; omega
  have e0 : [] ++ L = L := List.nil_append L
  have f1 := foldE_length L
  have f2 : (mapE L).length ≤ (foldE L).length := List.length_filter_le _ _
  repeat' (first | with_reducible apply Stp.go | with_reducible refine imp fun _ => ?_ | (with_reducible refine hyp ?_ ?_; first | assumption | exact leftT_mem (by assumption)) | (with_reducible refine need ?_ ?_; first | trivial | omega | (simp only [List.length_append, List.length_cons, List.length_nil, List.length_map, List.length_take, List.length_drop, List.length_replicate]; omega)) | (with_reducible refine fact ?_ ?_; first | trivial | exact ⟨rfl, rfl⟩ | kernel_rfl) | with_reducible refine choT (by assumption) ?_ | with_reducible refine choF (by assumption) ?_ | with_reducible refine choF' (by assumption) ?_ | (with_reducible refine altT ?_ ?_; first | omega | (simp only [List.length_append, List.length_cons, List.length_nil, List.length_map, List.length_take, List.length_drop, List.length_replicate]; omega)) | with_reducible refine altF ?_ | with_reducible refine all fun _ => ?_ | with_reducible refine both ?_ ?_ | (with_reducible refine choT ?_ ?_; omega) | (with_reducible refine choF ?_ ?_; omega) | with_reducible refine cho (fun _ => ?_) (fun _ => ?_))
  rw [← hL] at *
  rw [e0]
  repeat' (first | with_reducible apply Stp.go | with_reducible refine imp fun _ => ?_ | (with_reducible refine hyp ?_ ?_; first | assumption | exact leftT_mem (by assumption)) | (with_reducible refine need ?_ ?_; first | trivial | omega | (simp only [List.length_append, List.length_cons, List.length_nil, List.length_map, List.length_take, List.length_drop, List.length_replicate]; omega)) | (with_reducible refine fact ?_ ?_; first | trivial | exact ⟨rfl, rfl⟩ | kernel_rfl) | with_reducible refine choT (by assumption) ?_ | with_reducible refine choF (by assumption) ?_ | with_reducible refine choF' (by assumption) ?_ | (with_reducible refine altT ?_ ?_; first | omega | (simp only [List.length_append, List.length_cons, List.length_nil, List.length_map, List.length_take, List.length_drop, List.length_replicate]; omega)) | with_reducible refine altF ?_ | with_reducible refine all fun _ => ?_ | with_reducible refine both ?_ ?_ | (with_reducible refine choT ?_ ?_; omega) | (with_reducible refine choF ?_ ?_; omega) | with_reducible refine cho (fun _ => ?_) (fun _ => ?_))
  rename_i _ v
  have q1 := placeN_le L k
  refine loopI (β := Nat × List En) (fun x => x.2.length = (foldE L).length) (fun x => [.lst 4 (L.map En.av) .ro, S k, B true, .lst 4 (L.map En.av) .ro, .own v (foldE L).length, B true, B true, I .i64 (x.1 : Nat)]) (fun x => [.row v 35 4 (x.2.map En.av) 0]) (fun x => (foldE L).length - x.1) (0, foldE L) rfl ?_ ?_
  · rw [decide_eq_true (rfl : foldE L = foldE L), decide_eq_true (rfl : mapE L = mapE L)]
    exact Sub.refl _ _
  rintro ⟨i, G⟩ hG
  dsimp only at hG ⊢
  by_cases hlt : i < (foldE L).length
  · repeat' (first | with_reducible apply Stp.go | with_reducible refine imp fun _ => ?_ | (with_reducible refine hyp ?_ ?_; first | assumption | exact leftT_mem (by assumption)) | (with_reducible refine need ?_ ?_; first | trivial | omega | (simp only [List.length_append, List.length_cons, List.length_nil, List.length_map, List.length_take, List.length_drop, List.length_replicate]; omega)) | (with_reducible refine fact ?_ ?_; first | trivial | exact ⟨rfl, rfl⟩ | kernel_rfl) | with_reducible refine choT (by assumption) ?_ | with_reducible refine choF (by assumption) ?_ | with_reducible refine choF' (by assumption) ?_ | (with_reducible refine altT ?_ ?_; first | omega | (simp only [List.length_append, List.length_cons, List.length_nil, List.length_map, List.length_take, List.length_drop, List.length_replicate]; omega)) | with_reducible refine altF ?_ | with_reducible refine all fun _ => ?_ | with_reducible refine both ?_ ?_ | (with_reducible refine choT ?_ ?_; omega) | (with_reducible refine choF ?_ ?_; omega) | with_reducible refine cho (fun _ => ?_) (fun _ => ?_))
    refine again (i + 1, _) (by dsimp only; omega) ?_ (Sub.refl _ _)
    simpa using hG
  · repeat' (first | with_reducible apply Stp.go | with_reducible refine imp fun _ => ?_ | (with_reducible refine hyp ?_ ?_; first | assumption | exact leftT_mem (by assumption)) | (with_reducible refine need ?_ ?_; first | trivial | omega | (simp only [List.length_append, List.length_cons, List.length_nil, List.length_map, List.length_take, List.length_drop, List.length_replicate]; omega)) | (with_reducible refine fact ?_ ?_; first | trivial | exact ⟨rfl, rfl⟩ | kernel_rfl) | with_reducible refine choT (by assumption) ?_ | with_reducible refine choF (by assumption) ?_ | with_reducible refine choF' (by assumption) ?_ | (with_reducible refine altT ?_ ?_; first | omega | (simp only [List.length_append, List.length_cons, List.length_nil, List.length_map, List.length_take, List.length_drop, List.length_replicate]; omega)) | with_reducible refine altF ?_ | with_reducible refine all fun _ => ?_ | with_reducible refine both ?_ ?_ | (with_reducible refine choT ?_ ?_; omega) | (with_reducible refine choF ?_ ?_; omega) | with_reducible refine cho (fun _ => ?_) (fun _ => ?_))
    · rw [decide_eq_true (rfl : sorted L = sorted L)]
      exact ⟨_, _, _, rfl, Sub.app_nil _, rfl, rfl⟩
    · rename_i h
      exact absurd rfl h
end Go.Ab
