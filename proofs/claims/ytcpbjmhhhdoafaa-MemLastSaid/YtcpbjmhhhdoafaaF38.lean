/- MemLast. -/
import Derived.Test.YtcpbjmhhhdoafaaF37
set_option linter.unusedVariables false
set_option linter.unusedSimpArgs false
namespace Go.Ab
def law10_MemLast.mark : Mark := ⟨fun t => Nat.beq t 11, fun t => false, fun t => false, fun t => false, fun t => false⟩
def law10_MemLast.ann : Ann := ⟨fun n => [], fun n => bif Nat.beq n 10 then some [0, 1, 8, 9] else none, fun n => none⟩
/-- 'marlstone/marlstonelaw10.MemLast' -/
def law10_MemLast.sh (a0 a1 a2 : AV) (σ : Store) (Q : AEnd → Store → Prop) : Prop :=
  Do (aPureC Go.Proofs.Try.prog 9 []) fun t11 =>
  aCall Go.Proofs.Try.prog 10 [] σ (fun t12 σ =>
  Do (aUn Go.Proofs.Try.prog .not t11) fun t14 =>
  Do (aGuard t14 false (aIs t12)) fun t16 =>
  Do (aGuard t14 false (aBin Go.Proofs.Try.prog .eql 23 t16 (.val (.pointer none)))) fun t17 =>
  Do (aPick t14 (.val (.bool true)) t17) fun t18 =>
  aCond t18
    (Q (.ret (.val (.bool false))) σ)
    (Do (aBin Go.Proofs.Try.prog .and 3 a0 (.val (.int .i64 1099511627775))) fun t20 =>
  Do (aBin Go.Proofs.Try.prog .add 3 (.val (.int .i64 1)) t20) fun t21 =>
  Do (aBin Go.Proofs.Try.prog .and 3 a1 (.val (.int .i64 1099511627775))) fun t23 =>
  Do (aBin Go.Proofs.Try.prog .add 3 (.val (.int .i64 1)) t23) fun t24 =>
  Do (aLit [.val (.string ⟨#[]⟩), .val (.string ⟨#[]⟩), .val (.bool false), .val (.int .i64 0)] [(0, 1), (1, 1), (2, 1), (3, 1)] [(0, (.val (.string ⟨#[107]⟩))), (3, t21)]) fun t27 =>
  aCall Go.Proofs.Try.prog 11 [t12, t27] σ (fun t28 σ_1 =>
  aJoin (fun j =>
    aCond a2
      (aCall Go.Proofs.Try.prog 13 [t12] σ_1 (fun t31 σ_3 =>
      j [t21, t24, t12, t28] σ_3) (fun e σ_4 => Q (.pan e) σ_4))
      (j [t21, t24, t12, t28] σ_1)) fun vs σ_2 =>
  At vs 0 fun s0 => At vs 1 fun s1 => At vs 2 fun s8 => At vs 3 fun s9 => Do (aLit [.val (.string ⟨#[]⟩), .val (.string ⟨#[]⟩), .val (.bool false), .val (.int .i64 0)] [(0, 1), (1, 1), (2, 1), (3, 1)] [(0, (.val (.string ⟨#[107]⟩))), (3, s1)]) fun t34 =>
  aCall Go.Proofs.Try.prog 11 [s8, t34] σ_2 (fun t35 σ_5 =>
  Do (aBin Go.Proofs.Try.prog .eql 25 s9 (.val (.int .i64 0))) fun t37 =>
  Do (aGuard t37 true (aIs t35)) fun t39 =>
  Do (aGuard t37 true (aBin Go.Proofs.Try.prog .eql 25 t39 (.val (.int .i64 0)))) fun t40 =>
  Do (aGuard t37 true (aIs s1)) fun t41 =>
  Do (aGuard t37 true (aIs s0)) fun t42 =>
  Do (aGuard t37 true (aBin Go.Proofs.Try.prog .gtr 3 t41 t42)) fun t43 =>
  Do (aGuard t37 true (aBin Go.Proofs.Try.prog .eql 4 t40 t43)) fun t44 =>
  Do (aPick t37 t44 (.val (.bool false))) fun t45 =>
  Do (aGuard t45 true (aIs t35)) fun t47 =>
  Do (aGuard t45 true (aBin Go.Proofs.Try.prog .eql 25 t47 (.val (.int .i64 0)))) fun t48 =>
  Do (aGuard t45 true (aIs t48)) fun t49 =>
  Do (aGuard t49 false (aIs t35)) fun t50 =>
  Do (aGuard t49 false (aBin Go.Proofs.Try.prog .eql 25 t50 (.val (.int .i64 1)))) fun t51 =>
  Do (aGuard t45 true (aPick t49 (.val (.bool true)) t51)) fun t52 =>
  Do (aPick t45 t52 (.val (.bool false))) fun t53 =>
  Do (aGuard t53 true (aIs s8)) fun t55 =>
  GEff t53 true (aCall Go.Proofs.Try.prog 14 [t55] σ_5 (fun t56 σ_6 =>
    Do (aGuard t53 true (aIs s0)) fun t57 =>
  Do (aGuard t53 true (aIs s1)) fun t58 =>
  Do (aGuard t53 true (aBuiltin Go.Proofs.Try.prog .max #[3, 3] [t57, t58])) fun t59 =>
  Do (aGuard t53 true (aBin Go.Proofs.Try.prog .eql 3 t56 t59)) fun t60 =>
  Do (aPick t53 t60 (.val (.bool false))) fun t61 =>
  Q (.ret t61) σ_6) (fun e_1 σ_7 => Q (.pan e_1) σ_7))
  (Do (aGuard t53 true (aIs s0)) fun t57_1 =>
  Do (aGuard t53 true (aIs s1)) fun t58_1 =>
  Do (aGuard t53 true (aBuiltin Go.Proofs.Try.prog .max #[3, 3] [t57_1, t58_1])) fun t59_1 =>
  Do (aGuard t53 true (aBin Go.Proofs.Try.prog .eql 3 (.val Go.undef) t59_1)) fun t60_1 =>
  Do (aPick t53 t60_1 (.val (.bool false))) fun t61_1 =>
  Q (.ret t61_1) σ_5)) (fun e_2 σ_8 => Q (.pan e_2) σ_8)) (fun e_3 σ_9 => Q (.pan e_3) σ_9))) (fun e_4 σ_10 => Q (.pan e_4) σ_10)
theorem law10_MemLast.eq (a0 a1 a2 : AV) (σ : Store) (Q : AEnd → Store → Prop) : vc (semOf Go.Proofs.Try.prog law10_MemLast.mark) Go.Proofs.Try.f4.ntmps law10_MemLast.ann (bodyOf Go.Proofs.Try.f4) (endK [.tmp 6] Q) (argFr [a0, a1, a2]) σ = law10_MemLast.sh a0 a1 a2 σ Q := by kernel_rfl
theorem law10_MemLast.go {a0 a1 a2 : AV} {σ : Store} {Q : AEnd → Store → Prop} (h : law10_MemLast.sh a0 a1 a2 σ Q) : ACalls Go.Proofs.Try.prog 4 [a0, a1, a2] σ Q :=
  acalls_of_eq [.tmp 6] Go.Proofs.Try.func4 (by kernel_rfl) (by kernel_rfl) (by kernel_rfl) (by kernel_rfl) (law10_MemLast.eq a0 a1 a2 σ Q) h
theorem right_k {p : Nat} (h : p < 1099511627776) : right ⟨[107], [], false, ((1 + p : Nat) : Int)⟩ = true := by
  unfold right
  simp
  omega
theorem MemLast_ok (a b : Int) (clear : Bool) (ha : (Lit.int .i64 a).wf = true) (hb : (Lit.int .i64 b).wf = true) : aPure Go.Proofs.Try.prog 4 [I .i64 a, I .i64 b, B clear] (B true) := by
  refine ACalls.fin (law10_MemLast.go ?_)
  unfold law10_MemLast.sh
  have i0 := memI0 0
  have ht : (true : Bool) = true := rfl
  repeat' (first | with_reducible apply Stp.go | with_reducible refine imp fun _ => ?_ | (with_reducible refine hyp ?_ ?_; first | assumption | exact leftT_mem (by assumption)) | (with_reducible refine need ?_ ?_; first | trivial | omega | exact ⟨by assumption, by omega⟩ | (simp only [List.length_append, List.length_cons, List.length_nil, List.length_map, List.length_take, List.length_drop, List.length_replicate, List.length_set]; omega)) | (with_reducible refine fact ?_ ?_; first | trivial | exact ⟨rfl, rfl⟩ | kernel_rfl) | with_reducible refine choT (by assumption) ?_ | with_reducible refine choF (by assumption) ?_ | with_reducible refine choF' (by assumption) ?_ | (with_reducible refine altT ?_ ?_; first | omega | (simp only [List.length_append, List.length_cons, List.length_nil, List.length_map, List.length_take, List.length_drop, List.length_replicate, List.length_set]; omega)) | with_reducible refine altF ?_ | with_reducible refine all fun _ => ?_ | with_reducible refine both ?_ ?_ | (with_reducible refine choT ?_ ?_; omega) | (with_reducible refine choF ?_ ?_; omega) | with_reducible refine cho (fun _ => ?_) (fun _ => ?_))
  rename_i m v
  have hp : (a % 1099511627776).toNat < 1099511627776 := by omega
  have hq : (b % 1099511627776).toNat < 1099511627776 := by omega
  generalize (a % 1099511627776).toNat = p at *
  generalize (b % 1099511627776).toNat = q at *
  have r1 := right_k hp
  have r2 := right_k hq
  have x1 : putX [] 0 ⟨[107], [], false, ((1 + p : Nat) : Int)⟩ = 0 := by
    rw [putX_small r1 (.inr (by simp)), if_neg]
    show ¬ ((1 + p : Nat) : Int) ≤ 0
    omega
  have i1 := putI (e := ⟨[107], [], false, ((1 + p : Nat) : Int)⟩) i0
  have l1 : (putL [] 0 ⟨[107], [], false, ((1 + p : Nat) : Int)⟩).length < 64 := by
    rw [putL_put i0 x1]; simp [putE]
  have s1 : putS [] 0 ⟨[107], [], false, ((1 + p : Nat) : Int)⟩ = ((1 + p : Nat) : Int) := putS_ok x1
  rw [s1] at i1 ⊢
  rw [x1]
  refine joinI (β := Value × List En × List UInt8) (fun x => memI x.2.1 ((1 + p : Nat) : Int) ∧ x.2.1.length < 64 ∧ x.2.2.length = 32) (fun _ => [I .i64 ((1 + p : Nat) : Int), I .i64 ((1 + q : Nat) : Int), ptrAt m 0, I .i64 ((0 : Nat) : Int)]) (fun x => memS m x.1 x.2.1 ((1 + p : Nat) : Int) x.2.2) ?_ ?_
  · repeat' (first | with_reducible apply Stp.go | with_reducible refine imp fun _ => ?_ | (with_reducible refine hyp ?_ ?_; first | assumption | exact leftT_mem (by assumption)) | (with_reducible refine need ?_ ?_; first | trivial | omega | exact ⟨by assumption, by omega⟩ | (simp only [List.length_append, List.length_cons, List.length_nil, List.length_map, List.length_take, List.length_drop, List.length_replicate, List.length_set]; omega)) | (with_reducible refine fact ?_ ?_; first | trivial | exact ⟨rfl, rfl⟩ | kernel_rfl) | with_reducible refine choT (by assumption) ?_ | with_reducible refine choF (by assumption) ?_ | with_reducible refine choF' (by assumption) ?_ | (with_reducible refine altT ?_ ?_; first | omega | (simp only [List.length_append, List.length_cons, List.length_nil, List.length_map, List.length_take, List.length_drop, List.length_replicate, List.length_set]; omega)) | with_reducible refine altF ?_ | with_reducible refine all fun _ => ?_ | with_reducible refine both ?_ ?_ | (with_reducible refine choT ?_ ?_; omega) | (with_reducible refine choF ?_ ?_; omega) | with_reducible refine cho (fun _ => ?_) (fun _ => ?_))
    · exact meet (.slice none 0 0, [], sha []) ⟨memI0 _, by decide, sha_length _⟩ (by simpa using Sub.refl _ _)
    · exact meet (v, putL [] 0 ⟨[107], [], false, ((1 + p : Nat) : Int)⟩, putC [] 0 (sha []) ⟨[107], [], false, ((1 + p : Nat) : Int)⟩) ⟨i1, l1, Len32.len⟩ (by simpa using Sub.refl _ _)
  · rintro ⟨v2, l, c⟩ ⟨h1, h2, h3⟩
    dsimp only at h1 h2 h3 ⊢
    haveI : Len32 c := ⟨h3⟩
    have x2 := putX_small (l := l) (s := ((1 + p : Nat) : Int)) r2 (.inr h2)
    have x2 : putX l ((1 + p : Nat) : Int) ⟨[107], [], false, ((1 + q : Nat) : Int)⟩ = if q ≤ p then 1 else 0 := by
      rw [x2]
      by_cases h : q ≤ p
      · rw [if_pos h, if_pos (show ((1 + q : Nat) : Int) ≤ ((1 + p : Nat) : Int) by omega)]
      · rw [if_neg h, if_neg (show ¬ ((1 + q : Nat) : Int) ≤ ((1 + p : Nat) : Int) by omega)]
    have h0 : (0 : Nat) = 0 := rfl
    by_cases h : q ≤ p
    · rw [if_pos h] at x2
      have y := putS_err (l := l) (s := ((1 + p : Nat) : Int)) (e := ⟨[107], [], false, ((1 + q : Nat) : Int)⟩) (by rw [x2]; decide)
      have z : decide (putX l ((1 + p : Nat) : Int) ⟨[107], [], false, ((1 + q : Nat) : Int)⟩ = 0) = decide (1 + p < 1 + q) := by
        rw [x2, decide_eq_false (by omega), decide_eq_false (by omega)]
      repeat' (first | with_reducible apply Stp.go | with_reducible refine imp fun _ => ?_ | (with_reducible refine hyp ?_ ?_; first | assumption | exact leftT_mem (by assumption)) | (with_reducible refine need ?_ ?_; first | trivial | omega | exact ⟨by assumption, by omega⟩ | (simp only [List.length_append, List.length_cons, List.length_nil, List.length_map, List.length_take, List.length_drop, List.length_replicate, List.length_set]; omega)) | (with_reducible refine fact ?_ ?_; first | trivial | exact ⟨rfl, rfl⟩ | kernel_rfl) | with_reducible refine choT (by assumption) ?_ | with_reducible refine choF (by assumption) ?_ | with_reducible refine choF' (by assumption) ?_ | (with_reducible refine altT ?_ ?_; first | omega | (simp only [List.length_append, List.length_cons, List.length_nil, List.length_map, List.length_take, List.length_drop, List.length_replicate, List.length_set]; omega)) | with_reducible refine altF ?_ | with_reducible refine all fun _ => ?_ | with_reducible refine both ?_ ?_ | (with_reducible refine choT ?_ ?_; omega) | (with_reducible refine choF ?_ ?_; omega) | with_reducible refine cho (fun _ => ?_) (fun _ => ?_))
      refine ⟨_, _, _, rfl, Sub.app_nil _, ?_, rfl⟩
      rw [decide_eq_true (by rw [y]; omega)]
    · rw [if_neg h] at x2
      have y := putS_ok (l := l) (s := ((1 + p : Nat) : Int)) (e := ⟨[107], [], false, ((1 + q : Nat) : Int)⟩) x2
      have z : decide (putX l ((1 + p : Nat) : Int) ⟨[107], [], false, ((1 + q : Nat) : Int)⟩ = 0) = decide (1 + p < 1 + q) := by
        rw [x2, decide_eq_true (by omega), decide_eq_true (by omega)]
      repeat' (first | with_reducible apply Stp.go | with_reducible refine imp fun _ => ?_ | (with_reducible refine hyp ?_ ?_; first | assumption | exact leftT_mem (by assumption)) | (with_reducible refine need ?_ ?_; first | trivial | omega | exact ⟨by assumption, by omega⟩ | (simp only [List.length_append, List.length_cons, List.length_nil, List.length_map, List.length_take, List.length_drop, List.length_replicate, List.length_set]; omega)) | (with_reducible refine fact ?_ ?_; first | trivial | exact ⟨rfl, rfl⟩ | kernel_rfl) | with_reducible refine choT (by assumption) ?_ | with_reducible refine choF (by assumption) ?_ | with_reducible refine choF' (by assumption) ?_ | (with_reducible refine altT ?_ ?_; first | omega | (simp only [List.length_append, List.length_cons, List.length_nil, List.length_map, List.length_take, List.length_drop, List.length_replicate, List.length_set]; omega)) | with_reducible refine altF ?_ | with_reducible refine all fun _ => ?_ | with_reducible refine both ?_ ?_ | (with_reducible refine choT ?_ ?_; omega) | (with_reducible refine choF ?_ ?_; omega) | with_reducible refine cho (fun _ => ?_) (fun _ => ?_))
      refine ⟨_, _, _, rfl, Sub.app_nil _, ?_, rfl⟩
      rw [decide_eq_true (by rw [y]; show ((1 + q : Nat) : Int) = _; omega)]
end Go.Ab
