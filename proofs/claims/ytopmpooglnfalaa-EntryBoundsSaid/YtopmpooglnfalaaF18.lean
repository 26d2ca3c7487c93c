/- The law EntryBounds: what its function does. -/
import Derived.Test.YtopmpooglnfalaaF16
set_option linter.unusedVariables false
set_option linter.unusedSimpArgs false
namespace Go.Ab
def law03_EntryBounds.mark : Mark := ⟨fun t => Nat.beq t 12 || Nat.beq t 55 || Nat.beq t 61, fun t => false, fun t => false, fun t => false, fun t => false⟩
def law03_EntryBounds.ann : Ann := ⟨fun n => [], fun n => none, fun n => bif Nat.beq n 4 then some [0, 1, 2, 3, 9, 10] else none⟩
/-- 'marlstone/marlstonelaw03.EntryBounds' -/
def law03_EntryBounds.sh (a0 a1 a2 a3 : AV) (σ : Store) (Q : AEnd → Store → Prop) : Prop :=
  Do (aPureC Go.Proofs.Try.prog 29 []) fun t12 =>
  Do (aBin Go.Proofs.Try.prog .and 3 a0 (.val (.int .i64 255))) fun t14 =>
  Do (aBin Go.Proofs.Try.prog .and 3 a1 (.val (.int .i64 2047))) fun t16 =>
  aJoin (fun j =>
    Both (aMake 5 [(.int .u8 0)] 1 1 t14 t14 σ (subF fun t18 σ_1 =>
    Do (aConvBS t18) fun t19 =>
    Both (aMake 5 [(.int .u8 0)] 1 1 t16 t16 σ_1 (subF fun t21 σ_2 =>
    Do (aConvBS t21) fun t22 =>
    Do (aLit [.val (.string ⟨#[]⟩), .val (.string ⟨#[]⟩), .val (.bool false), .val (.int .i64 0)] [(0, 1), (1, 1), (2, 1), (3, 1)] [(0, t19), (1, t22), (2, a2), (3, a3)]) fun t25 =>
    aNewVar 35 [.val (.string ⟨#[]⟩), .val (.string ⟨#[]⟩), .val (.bool false), .val (.int .i64 0)] σ_2 fun t10 σ_3 =>
    storeA 4 t10 t25 σ_3 fun u σ_4 =>
    j [t14, t16, a2, a3, t12, t10] σ_4)) (aNewVar 35 [.val (.string ⟨#[]⟩), .val (.string ⟨#[]⟩), .val (.bool false), .val (.int .i64 0)] σ_1 fun t10_1 σ_5 =>
    aMake 5 [(.int .u8 0)] 1 1 t16 t16 σ_5 (subF fun t21_1 σ_6 =>
    Do (aConvBS t21_1) fun t22_1 =>
    Do (aLit [.val (.string ⟨#[]⟩), .val (.string ⟨#[]⟩), .val (.bool false), .val (.int .i64 0)] [(0, 1), (1, 1), (2, 1), (3, 1)] [(0, t19), (1, t22_1), (2, a2), (3, a3)]) fun t25_1 =>
    storeA 4 t10_1 t25_1 σ_6 fun u_1 σ_7 =>
    j [t14, t16, a2, a3, t12, t10_1] σ_7)))) (Both (aMake 5 [(.int .u8 0)] 1 1 t16 t16 σ (subF fun t21_2 σ_8 =>
    Do (aConvBS t21_2) fun t22_2 =>
    Both (aMake 5 [(.int .u8 0)] 1 1 t14 t14 σ_8 (subF fun t18_1 σ_9 =>
    Do (aConvBS t18_1) fun t19_1 =>
    Do (aLit [.val (.string ⟨#[]⟩), .val (.string ⟨#[]⟩), .val (.bool false), .val (.int .i64 0)] [(0, 1), (1, 1), (2, 1), (3, 1)] [(0, t19_1), (1, t22_2), (2, a2), (3, a3)]) fun t25_2 =>
    aNewVar 35 [.val (.string ⟨#[]⟩), .val (.string ⟨#[]⟩), .val (.bool false), .val (.int .i64 0)] σ_9 fun t10_2 σ_10 =>
    storeA 4 t10_2 t25_2 σ_10 fun u_2 σ_11 =>
    j [t14, t16, a2, a3, t12, t10_2] σ_11)) (aNewVar 35 [.val (.string ⟨#[]⟩), .val (.string ⟨#[]⟩), .val (.bool false), .val (.int .i64 0)] σ_8 fun t10_3 σ_12 =>
    aMake 5 [(.int .u8 0)] 1 1 t14 t14 σ_12 (subF fun t18_2 σ_13 =>
    Do (aConvBS t18_2) fun t19_2 =>
    Do (aLit [.val (.string ⟨#[]⟩), .val (.string ⟨#[]⟩), .val (.bool false), .val (.int .i64 0)] [(0, 1), (1, 1), (2, 1), (3, 1)] [(0, t19_2), (1, t22_2), (2, a2), (3, a3)]) fun t25_3 =>
    storeA 4 t10_3 t25_3 σ_13 fun u_3 σ_14 =>
    j [t14, t16, a2, a3, t12, t10_3] σ_14)))) (aNewVar 35 [.val (.string ⟨#[]⟩), .val (.string ⟨#[]⟩), .val (.bool false), .val (.int .i64 0)] σ fun t10_4 σ_15 =>
    Both (aMake 5 [(.int .u8 0)] 1 1 t14 t14 σ_15 (subF fun t18_3 σ_16 =>
    Do (aConvBS t18_3) fun t19_3 =>
    aMake 5 [(.int .u8 0)] 1 1 t16 t16 σ_16 (subF fun t21_3 σ_17 =>
    Do (aConvBS t21_3) fun t22_3 =>
    Do (aLit [.val (.string ⟨#[]⟩), .val (.string ⟨#[]⟩), .val (.bool false), .val (.int .i64 0)] [(0, 1), (1, 1), (2, 1), (3, 1)] [(0, t19_3), (1, t22_3), (2, a2), (3, a3)]) fun t25_4 =>
    storeA 4 t10_4 t25_4 σ_17 fun u_4 σ_18 =>
    j [t14, t16, a2, a3, t12, t10_4] σ_18))) (aMake 5 [(.int .u8 0)] 1 1 t16 t16 σ_15 (subF fun t21_4 σ_19 =>
    Do (aConvBS t21_4) fun t22_4 =>
    aMake 5 [(.int .u8 0)] 1 1 t14 t14 σ_19 (subF fun t18_4 σ_20 =>
    Do (aConvBS t18_4) fun t19_4 =>
    Do (aLit [.val (.string ⟨#[]⟩), .val (.string ⟨#[]⟩), .val (.bool false), .val (.int .i64 0)] [(0, 1), (1, 1), (2, 1), (3, 1)] [(0, t19_4), (1, t22_4), (2, a2), (3, a3)]) fun t25_5 =>
    storeA 4 t10_4 t25_5 σ_20 fun u_5 σ_21 =>
    j [t14, t16, a2, a3, t12, t10_4] σ_21)))))) fun vs σ =>
  At vs 0 fun s0 => At vs 1 fun s1 => At vs 2 fun s2 => At vs 3 fun s3 => At vs 4 fun s9 => At vs 5 fun s10 => Do (aBin Go.Proofs.Try.prog .geq 3 s0 (.val (.int .i64 1))) fun t27 =>
  Do (aGuard t27 true (aIs s0)) fun t29 =>
  Do (aGuard t27 true (aBin Go.Proofs.Try.prog .leq 3 t29 (.val (.int .i64 128)))) fun t30 =>
  Do (aPick t27 t30 (.val (.bool false))) fun t31 =>
  Do (aGuard t31 true (aIs s1)) fun t33 =>
  Do (aGuard t31 true (aBin Go.Proofs.Try.prog .leq 3 t33 (.val (.int .i64 1024)))) fun t34 =>
  Do (aPick t31 t34 (.val (.bool false))) fun t35 =>
  Do (aGuard t35 true (aIs s2)) fun t37 =>
  Do (aGuard t35 true (aIs t37)) fun t38 =>
  Do (aGuard t38 true (aIs s1)) fun t39 =>
  Do (aGuard t38 true (aBin Go.Proofs.Try.prog .gtr 3 t39 (.val (.int .i64 0)))) fun t40 =>
  Do (aGuard t35 true (aPick t38 t40 (.val (.bool false)))) fun t41 =>
  Do (aGuard t35 true (aUn Go.Proofs.Try.prog .not t41)) fun t42 =>
  Do (aPick t35 t42 (.val (.bool false))) fun t43 =>
  Do (aGuard t43 true (aIs s3)) fun t45 =>
  Do (aGuard t43 true (aBin Go.Proofs.Try.prog .geq 3 t45 (.val (.int .i64 1)))) fun t46 =>
  Do (aPick t43 t46 (.val (.bool false))) fun t47 =>
  Do (aGuard t47 true (aIs s3)) fun t49 =>
  Do (aGuard t47 true (aBin Go.Proofs.Try.prog .leq 3 t49 (.val (.int .i64 1099511627776)))) fun t50 =>
  Do (aPick t47 t50 (.val (.bool false))) fun t51 =>
  Do (aGuard s9 true (loadA true 4 s10 σ)) fun t54 =>
  Do (aGuard s9 true (aPureC Go.Proofs.Try.prog 24 [t54])) fun t55 =>
  Do (aGuard s9 true (aIs t51)) fun t56 =>
  Do (aGuard s9 true (aBin Go.Proofs.Try.prog .eql 4 t55 t56)) fun t57 =>
  Do (aPick s9 t57 (.val (.bool false))) fun t58 =>
  Do (aGuard t58 true (loadA true 4 s10 σ)) fun t60 =>
  Do (aGuard t58 true (aPureC Go.Proofs.Try.prog 30 [t60])) fun t61 =>
  Do (aGuard t58 true (aBuiltin Go.Proofs.Try.prog .len #[25] [t61])) fun t62 =>
  Do (aGuard t58 true (aBin Go.Proofs.Try.prog .gtr 3 t62 (.val (.int .i64 0)))) fun t63 =>
  Do (aGuard t58 true (aIs t51)) fun t64 =>
  Do (aGuard t58 true (aBin Go.Proofs.Try.prog .eql 4 t63 t64)) fun t65 =>
  Do (aPick t58 t65 (.val (.bool false))) fun t66 =>
  Q (.ret t66) σ
theorem law03_EntryBounds.eq (a0 a1 a2 a3 : AV) (σ : Store) (Q : AEnd → Store → Prop) : vc (semOf Go.Proofs.Try.prog law03_EntryBounds.mark) Go.Proofs.Try.f7.ntmps law03_EntryBounds.ann (bodyOf Go.Proofs.Try.f7) (endK [.tmp 8] Q) (argFr [a0, a1, a2, a3]) σ = law03_EntryBounds.sh a0 a1 a2 a3 σ Q := by kernel_rfl
theorem law03_EntryBounds.go {a0 a1 a2 a3 : AV} {σ : Store} {Q : AEnd → Store → Prop} (h : law03_EntryBounds.sh a0 a1 a2 a3 σ Q) : ACalls Go.Proofs.Try.prog 7 [a0, a1, a2, a3] σ Q :=
  acalls_of_eq [.tmp 8] Go.Proofs.Try.func7 (by kernel_rfl) (by kernel_rfl) (by kernel_rfl) (by kernel_rfl) (law03_EntryBounds.eq a0 a1 a2 a3 σ Q) h
/-- An entry of so many bytes. -/
def repE (p q : Nat) (d : Bool) (n : Int) : En := ⟨List.replicate p 0, List.replicate q 0, d, n⟩
theorem right_rep (p q : Nat) (d : Bool) (n : Int) : right (repE p q d n) = true ↔ 1 ≤ p ∧ p ≤ 128 ∧ q ≤ 1024 ∧ ¬ (d = true ∧ 0 < q) ∧ 1 ≤ n ∧ n ≤ 1099511627776 := by
  have e1 : (List.replicate p (0 : UInt8) = []) ↔ p = 0 := by simp
  have e2 : (List.replicate q (0 : UInt8) = []) ↔ q = 0 := by simp
  unfold right repE
  simp only [ne_eq, e1, e2, List.length_replicate, Bool.and_eq_true, decide_eq_true_eq, Bool.not_eq_true', Bool.and_eq_false_iff, decide_eq_false_iff_not, Classical.not_not]
  cases d <;> simp <;> omega
theorem enB_pos (e : En) : 0 < (enB e).length ↔ right e = true := by
  constructor
  · intro h
    cases hr : right e with
    | true => rfl
    | false => rw [enB_nil (by rw [hr]; decide)] at h; simp at h
  · intro h
    rw [enB_right h]
    exact (enR_length h).1
theorem EntryBounds_ok (a b : Int) (d : Bool) (n : Int) (ha : (Lit.int .i64 a).wf = true) (hb : (Lit.int .i64 b).wf = true) (hn : (Lit.int .i64 n).wf = true) : aPure Go.Proofs.Try.prog 7 [I .i64 a, I .i64 b, B d, I .i64 n] (B true) := by
  refine ACalls.fin (law03_EntryBounds.go ?_)
  unfold law03_EntryBounds.sh
  have hp : (a % 256).toNat ≤ 255 := by omega
  have hq : (b % 2048).toNat ≤ 2047 := by omega
  repeat' (first | with_reducible apply Stp.go | with_reducible refine imp fun _ => ?_ | (with_reducible refine hyp ?_ ?_; first | assumption | exact leftT_mem (by assumption)) | (with_reducible refine need ?_ ?_; first | trivial | omega | (simp only [List.length_append, List.length_cons, List.length_nil, List.length_map, List.length_take, List.length_drop, List.length_replicate]; omega)) | (with_reducible refine fact ?_ ?_; first | trivial | exact ⟨rfl, rfl⟩ | kernel_rfl) | with_reducible refine choT (by assumption) ?_ | with_reducible refine choF (by assumption) ?_ | with_reducible refine choF' (by assumption) ?_ | (with_reducible refine altT ?_ ?_; first | omega | (simp only [List.length_append, List.length_cons, List.length_nil, List.length_map, List.length_take, List.length_drop, List.length_replicate]; omega)) | with_reducible refine altF ?_ | with_reducible refine all fun _ => ?_ | with_reducible refine both ?_ ?_ | (with_reducible refine choT ?_ ?_; omega) | (with_reducible refine choF ?_ ?_; omega) | with_reducible refine cho (fun _ => ?_) (fun _ => ?_))
  generalize (a % 256).toNat = p at *
  generalize (b % 2048).toNat = q at *
  refine joinI (β := Nat) (fun _ => True) (fun z => [I .i64 (p : Nat), I .i64 (q : Nat), B d, I .i64 n, B true, ptrAt z 0]) (fun z => [.var z 35 (repE p q d n).cs]) ?_ ?_
  · repeat' (first | with_reducible apply Stp.go | with_reducible refine imp fun _ => ?_ | (with_reducible refine hyp ?_ ?_; first | assumption | exact leftT_mem (by assumption)) | (with_reducible refine need ?_ ?_; first | trivial | omega | (simp only [List.length_append, List.length_cons, List.length_nil, List.length_map, List.length_take, List.length_drop, List.length_replicate]; omega)) | (with_reducible refine fact ?_ ?_; first | trivial | exact ⟨rfl, rfl⟩ | kernel_rfl) | with_reducible refine choT (by assumption) ?_ | with_reducible refine choF (by assumption) ?_ | with_reducible refine choF' (by assumption) ?_ | (with_reducible refine altT ?_ ?_; first | omega | (simp only [List.length_append, List.length_cons, List.length_nil, List.length_map, List.length_take, List.length_drop, List.length_replicate]; omega)) | with_reducible refine altF ?_ | with_reducible refine all fun _ => ?_ | with_reducible refine both ?_ ?_ | (with_reducible refine choT ?_ ?_; omega) | (with_reducible refine choF ?_ ?_; omega) | with_reducible refine cho (fun _ => ?_) (fun _ => ?_))
    all_goals exact meet _ trivial (Sub.refl _ _)
  · intro z _
    have hr := right_rep p q d n
    have hx := enB_pos (repE p q d n)
    have hl := enB_length (repE p q d n)
    have hx' : decide (0 < (enB (repE p q d n)).length) = right (repE p q d n) := by rw [Bool.eq_iff_iff, decide_eq_true_eq]; exact hx
    clear hx hl
    repeat' (first | with_reducible apply Stp.go | with_reducible refine imp fun _ => ?_ | (with_reducible refine hyp ?_ ?_; first | assumption | exact leftT_mem (by assumption)) | (with_reducible refine need ?_ ?_; first | trivial | omega | (simp only [List.length_append, List.length_cons, List.length_nil, List.length_map, List.length_take, List.length_drop, List.length_replicate]; omega)) | (with_reducible refine fact ?_ ?_; first | trivial | exact ⟨rfl, rfl⟩ | kernel_rfl) | with_reducible refine choT (by assumption) ?_ | with_reducible refine choF (by assumption) ?_ | with_reducible refine choF' (by assumption) ?_ | (with_reducible refine altT ?_ ?_; first | omega | (simp only [List.length_append, List.length_cons, List.length_nil, List.length_map, List.length_take, List.length_drop, List.length_replicate]; omega)) | with_reducible refine altF ?_ | with_reducible refine all fun _ => ?_ | with_reducible refine both ?_ ?_ | (with_reducible refine choT ?_ ?_; omega) | (with_reducible refine choF ?_ ?_; omega) | with_reducible refine cho (fun _ => ?_) (fun _ => ?_))
    all_goals
      first
      | (rename_i hh
         refine ⟨_, _, _, rfl, Sub.app_nil _, ?_, rfl⟩
         rw [hx', decide_eq_true hh])
      | (exfalso
         rename_i hh
         apply hh
         first
         | (rw [Bool.eq_false_iff, ne_eq, hr]
            clear hr hx' hh ha hb hn
            cases d <;> simp_all <;> omega)
         | (rw [Bool.eq_iff_iff, hr]
            clear hr hx' hh ha hb hn
            cases d <;> simp_all <;> omega)
         | trace_state)
end Go.Ab
