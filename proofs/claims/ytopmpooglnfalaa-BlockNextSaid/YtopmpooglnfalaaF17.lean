/- The law BlockSmall: what its function does. -/
import Derived.Test.YtopmpooglnfalaaF16
import Derived.Test.YtopmpooglnfalaaF6
import Derived.Test.YtopmpooglnfalaaSp9
set_option linter.unusedVariables false
set_option linter.unusedSimpArgs false
namespace Go.Ab
def law04_fit.mark : Mark := ⟨fun t => Nat.beq t 7 || Nat.beq t 8 || Nat.beq t 24, fun t => false, fun t => false, fun t => Nat.beq t 23 || Nat.beq t 29, fun t => false⟩
def law04_fit.ann : Ann := ⟨fun n => bif Nat.beq n 4 then [3, 4, 5] else [], fun n => none, fun n => none⟩
/-- 'marlstone/marlstonelaw04.fit' -/
def law04_fit.sh (a0 : AV) (σ : Store) (Q : AEnd → Store → Prop) : Prop :=
  Do (aPureC Go.Proofs.Try.prog 19 [a0, (.val (.int .i64 70))]) fun t7 =>
  Do (aPureC Go.Proofs.Try.prog 31 [t7]) fun t8 =>
  aLoop (fun go vs σ =>
    At vs 0 fun s3 => At vs 1 fun s4 => At vs 2 fun s5 => Do (aBuiltin Go.Proofs.Try.prog .len #[22] [s4]) fun t11 =>
    Do (aBin Go.Proofs.Try.prog .lss 3 s5 t11) fun t12 =>
    Do (aGuard t12 true (aIs s3)) fun t14 =>
    Do (aGuard t12 true (aBuiltin Go.Proofs.Try.prog .len #[22] [t14])) fun t15 =>
    Do (aGuard t12 true (aBin Go.Proofs.Try.prog .lss 3 t15 (.val (.int .i64 64)))) fun t16 =>
    Do (aPick t12 t16 (.val (.bool false))) fun t17 =>
    aCond t17
      (Do (aIndexAddr .slice 4 s4 s5) fun t22 =>
    Do (loadF true 4 t22) fun t23 =>
    Do (aPureC Go.Proofs.Try.prog 24 [t23]) fun t24 =>
    aCond t24
      (Do (aIndexAddr .slice 4 s4 s5) fun t28 =>
      Do (loadF true 4 t28) fun t29 =>
      Do (aSlLit (mkE [.val (.string ⟨#[]⟩), .val (.string ⟨#[]⟩), .val (.bool false), .val (.int .i64 0)]) 4 1 [(0, t29)]) fun t30 =>
      aAppend 35 4 48 s3 t30 σ (subK fun t31 σ_1 =>
      Do (aBin Go.Proofs.Try.prog .add 3 s5 (.val (.int .i64 1))) fun t19 =>
    go [t31, s4, t19] σ_1))
      (Do (aBin Go.Proofs.Try.prog .add 3 s5 (.val (.int .i64 1))) fun t19_1 =>
    go [s3, s4, t19_1] σ))
      (Q (.ret s3) σ))
    [(.val (.slice none 0 0)), t8, (.val (.int .i64 0))] σ
theorem law04_fit.eq (a0 : AV) (σ : Store) (Q : AEnd → Store → Prop) : vc (semOf Go.Proofs.Try.prog law04_fit.mark) Go.Proofs.Try.f44.ntmps law04_fit.ann (bodyOf Go.Proofs.Try.f44) (endK [.tmp 2] Q) (argFr [a0]) σ = law04_fit.sh a0 σ Q := by kernel_rfl
theorem law04_fit.go {a0 : AV} {σ : Store} {Q : AEnd → Store → Prop} (h : law04_fit.sh a0 σ Q) : ACalls Go.Proofs.Try.prog 44 [a0] σ Q :=
  acalls_of_eq [.tmp 2] Go.Proofs.Try.func44 (by kernel_rfl) (by kernel_rfl) (by kernel_rfl) (by kernel_rfl) (law04_fit.eq a0 σ Q) h
def law04_BlockSmall.mark : Mark := ⟨fun t => Nat.beq t 8 || Nat.beq t 10 || Nat.beq t 17 || Nat.beq t 38, fun t => false, fun t => false, fun t => Nat.beq t 37, fun t => false⟩
def law04_BlockSmall.ann : Ann := ⟨fun n => bif Nat.beq n 8 then [0, 3, 4, 5, 6, 7] else [], fun n => none, fun n => none⟩
/-- 'marlstone/marlstonelaw04.BlockSmall' -/
def law04_BlockSmall.sh (a0 : AV) (σ : Store) (Q : AEnd → Store → Prop) : Prop :=
  Do (aPureC Go.Proofs.Try.prog 18 []) fun t8 =>
  Do (aPureC Go.Proofs.Try.prog 44 [a0]) fun t10 =>
  Do (aBuiltin Go.Proofs.Try.prog .len #[22] [t10]) fun t12 =>
  Do (aBin Go.Proofs.Try.prog .eql 3 t12 (.val (.int .i64 0))) fun t13 =>
  aCond t13
    (Q (.ret t8) σ)
    (Do (aPureC Go.Proofs.Try.prog 20 [t10]) fun t17 =>
  Do (aExt t17 0) fun t18 =>
  Do (aExt t17 1) fun t19 =>
  Do (aBuiltin Go.Proofs.Try.prog .len #[22] [t10]) fun t21 =>
  Do (aBin Go.Proofs.Try.prog .add 3 t21 (.val (.int .i64 7))) fun t22 =>
  Do (aBin Go.Proofs.Try.prog .quo 3 t22 (.val (.int .i64 8))) fun t23 =>
  Do (aBin Go.Proofs.Try.prog .mul 3 (.val (.int .i64 4)) t23) fun t24 =>
  Do (aBin Go.Proofs.Try.prog .add 3 (.val (.int .i64 4)) t24) fun t25 =>
  aLoop (fun go vs σ =>
    At vs 0 fun s0 => At vs 1 fun s3 => At vs 2 fun s4 => At vs 3 fun s5 => At vs 4 fun s6 => At vs 5 fun s7 => Do (aBuiltin Go.Proofs.Try.prog .len #[22] [s0]) fun t28 =>
    Do (aBin Go.Proofs.Try.prog .lss 3 s7 t28) fun t29 =>
    aCond t29
      (Do (aBin Go.Proofs.Try.prog .add 3 s6 (.val (.int .i64 1))) fun t33 =>
    Do (aIndexAddr .slice 4 s0 s7) fun t36 =>
    Do (loadF true 4 t36) fun t37 =>
    Do (aPureC Go.Proofs.Try.prog 30 [t37]) fun t38 =>
    Do (aBuiltin Go.Proofs.Try.prog .len #[25] [t38]) fun t39 =>
    Do (aBin Go.Proofs.Try.prog .add 3 t33 t39) fun t40 =>
    Do (aBin Go.Proofs.Try.prog .add 3 s7 (.val (.int .i64 1))) fun t31 =>
    go [s0, s3, s4, s5, t40, t31] σ)
      (Do (aGuard s3 true (aIs s5)) fun t43 =>
  Do (aGuard s3 true (aBin Go.Proofs.Try.prog .eql 26 t43 (.val (.int .i64 0)))) fun t44 =>
  Do (aPick s3 t44 (.val (.bool false))) fun t45 =>
  Do (aGuard t45 true (aIs s4)) fun t47 =>
  Do (aGuard t45 true (aBuiltin Go.Proofs.Try.prog .len #[25] [t47])) fun t48 =>
  Do (aGuard t45 true (aIs s6)) fun t49 =>
  Do (aGuard t45 true (aBin Go.Proofs.Try.prog .leq 3 t48 t49)) fun t50 =>
  Do (aPick t45 t50 (.val (.bool false))) fun t51 =>
  Q (.ret t51) σ))
    [t10, t8, t18, t19, t25, (.val (.int .i64 0))] σ)
theorem law04_BlockSmall.eq (a0 : AV) (σ : Store) (Q : AEnd → Store → Prop) : vc (semOf Go.Proofs.Try.prog law04_BlockSmall.mark) Go.Proofs.Try.f15.ntmps law04_BlockSmall.ann (bodyOf Go.Proofs.Try.f15) (endK [.tmp 2] Q) (argFr [a0]) σ = law04_BlockSmall.sh a0 σ Q := by kernel_rfl
theorem law04_BlockSmall.go {a0 : AV} {σ : Store} {Q : AEnd → Store → Prop} (h : law04_BlockSmall.sh a0 σ Q) : ACalls Go.Proofs.Try.prog 15 [a0] σ Q :=
  acalls_of_eq [.tmp 2] Go.Proofs.Try.func15 (by kernel_rfl) (by kernel_rfl) (by kernel_rfl) (by kernel_rfl) (law04_BlockSmall.eq a0 σ Q) h
theorem fit4_ok (l : List En) (m : SM) (hl : l.length ≤ 100000000000000) : aPure Go.Proofs.Try.prog 44 [.lst 4 (l.map En.av) m] (.lst 4 ((fitL ((l.take 70).map (cutE 130 1030))).map En.av) .ro) := by
  refine ACalls.fin (law04_fit.go ?_)
  unfold law04_fit.sh
  obtain ⟨L, hL⟩ : ∃ L, L = (l.take 70).map (cutE 130 1030) := ⟨_, rfl⟩
  have h70 : L.length ≤ 70 := by rw [hL]; simp; omega
  have hf := foldE_length L
  repeat' (first | with_reducible apply Stp.go | with_reducible refine imp fun _ => ?_ | (with_reducible refine hyp ?_ ?_; first | assumption | exact leftT_mem (by assumption)) | (with_reducible refine need ?_ ?_; first | trivial | omega | (simp only [List.length_append, List.length_cons, List.length_nil, List.length_map, List.length_take, List.length_drop, List.length_replicate]; omega)) | (with_reducible refine fact ?_ ?_; first | trivial | exact ⟨rfl, rfl⟩ | kernel_rfl) | with_reducible refine choT (by assumption) ?_ | with_reducible refine choF (by assumption) ?_ | with_reducible refine choF' (by assumption) ?_ | (with_reducible refine altT ?_ ?_; first | omega | (simp only [List.length_append, List.length_cons, List.length_nil, List.length_map, List.length_take, List.length_drop, List.length_replicate]; omega)) | with_reducible refine altF ?_ | with_reducible refine all fun _ => ?_ | with_reducible refine both ?_ ?_ | (with_reducible refine choT ?_ ?_; omega) | (with_reducible refine choF ?_ ?_; omega) | with_reducible refine cho (fun _ => ?_) (fun _ => ?_))
  rw [← hL] at *
  unfold fitL
  generalize foldE L = F at *
  refine loopI (β := Nat × Value) (fun x => x.1 ≤ F.length ∧ ((F.take x.1).filter right).length ≤ 64) (fun x => [.own x.2 ((F.take x.1).filter right).length, .lst 4 (F.map En.av) .ro, I .i64 (x.1 : Nat)]) (fun x => [.row x.2 35 4 (((F.take x.1).filter right).map En.av) 0]) (fun x => F.length - x.1) (0, .slice none 0 0) ⟨Nat.zero_le _, by simp⟩ (Sub.nil_own 35 (by decide) _ [] [_, _]) ?_
  rintro ⟨i, v⟩ ⟨hi, h64⟩
  dsimp only at hi h64 ⊢
  have hfin : (i = F.length ∨ ((F.take i).filter right).length = 64) → (F.filter right).take 64 = (F.take i).filter right := by
    intro h
    have hs : F.filter right = (F.take i).filter right ++ (F.drop i).filter right := by rw [← List.filter_append, List.take_append_drop]
    rw [hs]
    rcases h with h | h
    · rw [h, List.drop_length, List.filter_nil, List.append_nil, List.take_of_length_le (by rw [← h]; exact h64)]
    · rw [List.take_append_of_le_length (by omega), List.take_of_length_le (by omega)]
  by_cases hlt : i < F.length
  · have hs : (F.take (i + 1)).filter right = (F.take i).filter right ++ (if right (F.getD i default) = true then [F.getD i default] else []) := by
      rw [take_succ_d hlt, List.filter_append]
      generalize F.getD i default = y
      by_cases hy : right y = true <;> simp [hy]
    by_cases hc : ((F.take i).filter right).length < 64
    · repeat' (first | with_reducible apply Stp.go | with_reducible refine imp fun _ => ?_ | (with_reducible refine hyp ?_ ?_; first | assumption | exact leftT_mem (by assumption)) | (with_reducible refine need ?_ ?_; first | trivial | omega | (simp only [List.length_append, List.length_cons, List.length_nil, List.length_map, List.length_take, List.length_drop, List.length_replicate]; omega)) | (with_reducible refine fact ?_ ?_; first | trivial | exact ⟨rfl, rfl⟩ | kernel_rfl) | with_reducible refine choT (by assumption) ?_ | with_reducible refine choF (by assumption) ?_ | with_reducible refine choF' (by assumption) ?_ | (with_reducible refine altT ?_ ?_; first | omega | (simp only [List.length_append, List.length_cons, List.length_nil, List.length_map, List.length_take, List.length_drop, List.length_replicate]; omega)) | with_reducible refine altF ?_ | with_reducible refine all fun _ => ?_ | with_reducible refine both ?_ ?_ | (with_reducible refine choT ?_ ?_; omega) | (with_reducible refine choF ?_ ?_; omega) | with_reducible refine cho (fun _ => ?_) (fun _ => ?_))
      · rename_i hr w
        rw [if_pos hr] at hs
        refine again (i + 1, w) (by dsimp only; omega) ⟨by dsimp only; omega, ?_⟩ ?_
        · dsimp only
          rw [hs, List.length_append]
          simp only [List.length_cons, List.length_nil]
          omega
        · dsimp only
          rw [hs]
          exact Sub.refl _ _
      · rename_i hr
        rw [if_neg hr, List.append_nil] at hs
        refine again (i + 1, v) (by dsimp only; omega) ⟨by dsimp only; omega, ?_⟩ ?_
        · dsimp only
          rw [hs]
          exact h64
        · dsimp only
          rw [hs]
          exact Sub.refl _ _
    · rw [hfin (.inr (by omega))]
      repeat' (first | with_reducible apply Stp.go | with_reducible refine imp fun _ => ?_ | (with_reducible refine hyp ?_ ?_; first | assumption | exact leftT_mem (by assumption)) | (with_reducible refine need ?_ ?_; first | trivial | omega | (simp only [List.length_append, List.length_cons, List.length_nil, List.length_map, List.length_take, List.length_drop, List.length_replicate]; omega)) | (with_reducible refine fact ?_ ?_; first | trivial | exact ⟨rfl, rfl⟩ | kernel_rfl) | with_reducible refine choT (by assumption) ?_ | with_reducible refine choF (by assumption) ?_ | with_reducible refine choF' (by assumption) ?_ | (with_reducible refine altT ?_ ?_; first | omega | (simp only [List.length_append, List.length_cons, List.length_nil, List.length_map, List.length_take, List.length_drop, List.length_replicate]; omega)) | with_reducible refine altF ?_ | with_reducible refine all fun _ => ?_ | with_reducible refine both ?_ ?_ | (with_reducible refine choT ?_ ?_; omega) | (with_reducible refine choF ?_ ?_; omega) | with_reducible refine cho (fun _ => ?_) (fun _ => ?_))
      exact ⟨_, _, _, rfl, retOwn (Sub.refl _ _), rfl, rfl⟩
  · rw [hfin (.inl (by omega))]
    repeat' (first | with_reducible apply Stp.go | with_reducible refine imp fun _ => ?_ | (with_reducible refine hyp ?_ ?_; first | assumption | exact leftT_mem (by assumption)) | (with_reducible refine need ?_ ?_; first | trivial | omega | (simp only [List.length_append, List.length_cons, List.length_nil, List.length_map, List.length_take, List.length_drop, List.length_replicate]; omega)) | (with_reducible refine fact ?_ ?_; first | trivial | exact ⟨rfl, rfl⟩ | kernel_rfl) | with_reducible refine choT (by assumption) ?_ | with_reducible refine choF (by assumption) ?_ | with_reducible refine choF' (by assumption) ?_ | (with_reducible refine altT ?_ ?_; first | omega | (simp only [List.length_append, List.length_cons, List.length_nil, List.length_map, List.length_take, List.length_drop, List.length_replicate]; omega)) | with_reducible refine altF ?_ | with_reducible refine all fun _ => ?_ | with_reducible refine both ?_ ?_ | (with_reducible refine choT ?_ ?_; omega) | (with_reducible refine choF ?_ ?_; omega) | with_reducible refine cho (fun _ => ?_) (fun _ => ?_))
    exact ⟨_, _, _, rfl, retOwn (Sub.refl _ _), rfl, rfl⟩
instance {a : AV} {l : List En} {m : SM} [h : IsL a En.av 4 l m] : PC Go.Proofs.Try.prog 44 [a] (l.length ≤ 100000000000000) (.lst 4 ((fitL ((l.take 70).map (cutE 130 1030))).map En.av) .ro) := ⟨fun hl => ⟨[.lst 4 (l.map En.av) m], ⟨h.sub, trivial⟩, fit4_ok l m hl⟩⟩
theorem BlockSmall_ok (l : List En) (m : SM) (hl : l.length ≤ 100000000000000) : aPure Go.Proofs.Try.prog 15 [.lst 4 (l.map En.av) m] (B true) := by
  refine law04_BlockSmall.go ?_
  unfold law04_BlockSmall.sh
  obtain ⟨L, hL⟩ : ∃ L, L = fitL ((l.take 70).map (cutE 130 1030)) := ⟨_, rfl⟩
  have h64 : L.length ≤ 64 := by rw [hL]; unfold fitL; simp; omega
  have hfit : 0 < L.length → fit L = true := fun h => by rw [hL] at h ⊢; exact fitL_fit h
  repeat' (first | with_reducible apply Stp.go | with_reducible refine imp fun _ => ?_ | (with_reducible refine hyp ?_ ?_; first | assumption | exact leftT_mem (by assumption)) | (with_reducible refine need ?_ ?_; first | trivial | omega | (simp only [List.length_append, List.length_cons, List.length_nil, List.length_map, List.length_take, List.length_drop, List.length_replicate]; omega)) | (with_reducible refine fact ?_ ?_; first | trivial | exact ⟨rfl, rfl⟩ | kernel_rfl) | with_reducible refine choT (by assumption) ?_ | with_reducible refine choF (by assumption) ?_ | with_reducible refine choF' (by assumption) ?_ | (with_reducible refine altT ?_ ?_; first | omega | (simp only [List.length_append, List.length_cons, List.length_nil, List.length_map, List.length_take, List.length_drop, List.length_replicate]; omega)) | with_reducible refine altF ?_ | with_reducible refine all fun _ => ?_ | with_reducible refine both ?_ ?_ | (with_reducible refine choT ?_ ?_; omega) | (with_reducible refine choF ?_ ?_; omega) | with_reducible refine cho (fun _ => ?_) (fun _ => ?_))
  · exact ⟨rfl, rfl⟩
  rename_i h0
  rw [← hL] at *
  have hf := hfit (by omega)
  obtain ⟨_, _, _, hr⟩ := fit_right hf
  have hle := blockBytes_le hr
  have e1 : blkB L = blockBytes L := by simp [blkB, hf]
  have e2 : blkE L = 0 := by simp [blkE, hf]
  have hsum : ∀ k : List En, sumB k ≤ 1201 * k.length := by
    intro k
    induction k with
    | nil => simp [sumB]
    | cons a k ih =>
      have := enB_length a
      simp only [sumB, List.map_cons, List.sum_cons, List.length_cons] at ih ⊢
      omega
  rw [e2]
  repeat' (first | with_reducible apply Stp.go | with_reducible refine imp fun _ => ?_ | (with_reducible refine hyp ?_ ?_; first | assumption | exact leftT_mem (by assumption)) | (with_reducible refine need ?_ ?_; first | trivial | omega | (simp only [List.length_append, List.length_cons, List.length_nil, List.length_map, List.length_take, List.length_drop, List.length_replicate]; omega)) | (with_reducible refine fact ?_ ?_; first | trivial | exact ⟨rfl, rfl⟩ | kernel_rfl) | with_reducible refine choT (by assumption) ?_ | with_reducible refine choF (by assumption) ?_ | with_reducible refine choF' (by assumption) ?_ | (with_reducible refine altT ?_ ?_; first | omega | (simp only [List.length_append, List.length_cons, List.length_nil, List.length_map, List.length_take, List.length_drop, List.length_replicate]; omega)) | with_reducible refine altF ?_ | with_reducible refine all fun _ => ?_ | with_reducible refine both ?_ ?_ | (with_reducible refine choT ?_ ?_; omega) | (with_reducible refine choF ?_ ?_; omega) | with_reducible refine cho (fun _ => ?_) (fun _ => ?_))
  refine loopI (β := Nat) (fun i => i ≤ L.length) (fun i => [.lst 4 (L.map En.av) .ro, B true, .lst 1 ((blkB L).map byt) .ro, I .i64 0, I .i64 ((4 + 4 * ((L.length + 7) / 8) + sumB (L.take i) : Nat) : Int), I .i64 (i : Nat)]) (fun _ => []) (fun i => L.length - i) 0 (Nat.zero_le _) ?_ ?_
  · have e3 : 4 + 4 * ((L.length + 7) / 8) + sumB (L.take 0) = 4 + 4 * ((L.length + 7) / 8) := by simp [sumB]
    rw [e3]
    exact Sub.refl _ _
  · intro i hi
    have hs1 := hsum (L.take i)
    have ht : (L.take i).length ≤ i := by simp; omega
    by_cases hlt : i < L.length
    · have hb := enB_length (L.getD i default)
      have hs : sumB (L.take (i + 1)) = sumB (L.take i) + (1 + (enB (L.getD i default)).length) := by rw [take_succ_d hlt, sumB_snoc]
      have e4 : 4 + 4 * ((L.length + 7) / 8) + sumB (L.take i) + 1 + (enB (L.getD i default)).length = 4 + 4 * ((L.length + 7) / 8) + sumB (L.take (i + 1)) := by rw [hs]; omega
      repeat' (first | with_reducible apply Stp.go | with_reducible refine imp fun _ => ?_ | (with_reducible refine hyp ?_ ?_; first | assumption | exact leftT_mem (by assumption)) | (with_reducible refine need ?_ ?_; first | trivial | omega | (simp only [List.length_append, List.length_cons, List.length_nil, List.length_map, List.length_take, List.length_drop, List.length_replicate]; omega)) | (with_reducible refine fact ?_ ?_; first | trivial | exact ⟨rfl, rfl⟩ | kernel_rfl) | with_reducible refine choT (by assumption) ?_ | with_reducible refine choF (by assumption) ?_ | with_reducible refine choF' (by assumption) ?_ | (with_reducible refine altT ?_ ?_; first | omega | (simp only [List.length_append, List.length_cons, List.length_nil, List.length_map, List.length_take, List.length_drop, List.length_replicate]; omega)) | with_reducible refine altF ?_ | with_reducible refine all fun _ => ?_ | with_reducible refine both ?_ ?_ | (with_reducible refine choT ?_ ?_; omega) | (with_reducible refine choF ?_ ?_; omega) | with_reducible refine cho (fun _ => ?_) (fun _ => ?_))
      rw [e4]
      exact again (i + 1) (by omega) (by omega) (Sub.refl _ _)
    · have e : L.take i = L := List.take_of_length_le (by omega)
      rw [e] at *
      rw [e1]
      repeat' (first | with_reducible apply Stp.go | with_reducible refine imp fun _ => ?_ | (with_reducible refine hyp ?_ ?_; first | assumption | exact leftT_mem (by assumption)) | (with_reducible refine need ?_ ?_; first | trivial | omega | (simp only [List.length_append, List.length_cons, List.length_nil, List.length_map, List.length_take, List.length_drop, List.length_replicate]; omega)) | (with_reducible refine fact ?_ ?_; first | trivial | exact ⟨rfl, rfl⟩ | kernel_rfl) | with_reducible refine choT (by assumption) ?_ | with_reducible refine choF (by assumption) ?_ | with_reducible refine choF' (by assumption) ?_ | (with_reducible refine altT ?_ ?_; first | omega | (simp only [List.length_append, List.length_cons, List.length_nil, List.length_map, List.length_take, List.length_drop, List.length_replicate]; omega)) | with_reducible refine altF ?_ | with_reducible refine all fun _ => ?_ | with_reducible refine both ?_ ?_ | (with_reducible refine choT ?_ ?_; omega) | (with_reducible refine choF ?_ ?_; omega) | with_reducible refine cho (fun _ => ?_) (fun _ => ?_))
      rw [decide_eq_true hle]
      exact ⟨rfl, rfl⟩
end Go.Ab
