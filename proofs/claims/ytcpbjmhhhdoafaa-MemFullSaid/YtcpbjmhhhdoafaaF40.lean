/- MemFull. -/
import Derived.Test.YtcpbjmhhhdoafaaF37
set_option linter.unusedVariables false
set_option linter.unusedSimpArgs false
namespace Go.Ab
theorem hasK_get {l : List En} {k : List UInt8} : hasK l k = (getE k l).isSome := by
  unfold hasK getE
  rw [Bool.eq_iff_iff, List.any_eq_true, List.find?_isSome]
theorem hasK_put {l : List En} {e : En} (h : Rises l) (k : List UInt8) : hasK (putE e l) k = true ↔ k = e.key ∨ hasK l k = true := by
  rw [hasK_get, hasK_get, getE_put h]
  by_cases hk : e.key = k
  · rw [if_pos hk]; simp [hk]
  · rw [if_neg hk]
    constructor
    · exact .inr
    · rintro (h | h)
      · exact absurd h.symm hk
      · exact h
def keyN (i : Nat) : List UInt8 := [107] ++ [UInt8.ofNat i]
theorem keyN_inj {i j : Nat} (hi : i < 256) (hj : j < 256) (h : keyN i = keyN j) : i = j := by
  simp only [keyN, List.singleton_append, List.cons.injEq, and_true, true_and] at h
  have := congrArg UInt8.toNat h
  simpa [UInt8.toNat_ofNat', Nat.mod_eq_of_lt hi, Nat.mod_eq_of_lt hj] using this
theorem right_key {i : Nat} {q : Int} (h1 : 1 ≤ q) (h2 : q ≤ 1000) : right ⟨keyN i, [], false, q⟩ = true := by
  unfold right keyN
  simp
  omega
/-- What a mem holds behind so many keys. -/
def fullI (J : Nat) (q : Int) (l : List En) (s : Int) : Prop := memI l s ∧ s ≤ q ∧ l.length = J ∧ ∀ k, hasK l k = true ↔ ∃ j, j < J ∧ k = keyN j
theorem fullX {J i : Nat} {q : Int} {l : List En} {s : Int} (h : fullI J q l s) (hi : i ≤ 100) (hJ : J ≤ 64) (hx : i < J ∨ (i = J ∧ J < 64) ∨ (64 ≤ i ∧ J = 64)) (h0 : 0 ≤ q) (hq : q ≤ 900) :
    putX l s ⟨keyN i, [], false, q + 1⟩ = (if i < 64 then 0 else 3) ∧ fullI (max J (min (i + 1) 64)) (q + 1) (putL l s ⟨keyN i, [], false, q + 1⟩) (putS l s ⟨keyN i, [], false, q + 1⟩) := by
  obtain ⟨h1, h2, h3, h4⟩ := h
  have hr : right ⟨keyN i, [], false, q + 1⟩ = true := right_key (by omega) (by omega)
  have hs : ¬ (⟨keyN i, [], false, q + 1⟩ : En).seq ≤ s := by show ¬ q + 1 ≤ s; omega
  have hk : hasK l (⟨keyN i, [], false, q + 1⟩ : En).key = true ↔ i < J := by
    rw [h4]
    constructor
    · rintro ⟨j, hj, e⟩
      have := keyN_inj (by omega) (by omega) e
      omega
    · intro hj; exact ⟨i, hj, rfl⟩
  have hX : putX l s ⟨keyN i, [], false, q + 1⟩ = if i < 64 then 0 else 3 := by
    unfold putX
    rw [if_pos ⟨hr, hs⟩]
    by_cases hj : i < J
    · rw [if_pos (hk.2 hj), if_pos (by omega)]
    · rw [if_neg (fun h => hj (hk.1 h))]
      by_cases h64 : i < 64
      · rw [if_neg (by omega), if_pos h64]
      · rw [if_pos (by omega), if_neg h64]
  refine ⟨hX, putI h1, ?_, ?_, ?_⟩
  · unfold putS
    split
    · exact Int.le_refl _
    · omega
  · by_cases h64 : i < 64
    · rw [if_pos h64] at hX
      rw [putL, if_pos hX]
      by_cases hj : i < J
      · rw [insL_old (hk.2 hj), List.length_set]; omega
      · rw [insL_new (fun h => hj (hk.1 h))]
        have := placeN_le l (⟨keyN i, [], false, q + 1⟩ : En).key
        simp at this ⊢
        omega
    · rw [if_neg h64] at hX
      rw [putL_err (by rw [hX]; decide)]; omega
  · intro k
    by_cases h64 : i < 64
    · rw [if_pos h64] at hX
      rw [putL_put h1 hX, hasK_put h1.1, h4]
      constructor
      · rintro (rfl | ⟨j, hj, rfl⟩)
        · exact ⟨i, by omega, rfl⟩
        · exact ⟨j, by omega, rfl⟩
      · rintro ⟨j, hj, rfl⟩
        by_cases h5 : j < J
        · exact .inr ⟨j, h5, rfl⟩
        · have : j = i := by omega
          subst this
          exact .inl rfl
    · rw [if_neg h64] at hX
      rw [putL_err (by rw [hX]; decide), h4]
      have : max J (min (i + 1) 64) = J := by omega
      rw [this]
def law10_MemFull.mark : Mark := ⟨fun t => Nat.beq t 9, fun t => false, fun t => false, fun t => false, fun t => false⟩
def law10_MemFull.ann : Ann := ⟨fun n => bif Nat.beq n 8 then [0, 4, 5, 6] else bif Nat.beq n 11 then [0, 4, 5, 6, 7] else [], fun n => none, fun n => none⟩
/-- 'marlstone/marlstonelaw10.MemFull' -/
def law10_MemFull.sh (a0 : AV) (σ : Store) (Q : AEnd → Store → Prop) : Prop :=
  Do (aPureC Go.Proofs.Try.prog 9 []) fun t9 =>
  aCall Go.Proofs.Try.prog 10 [] σ (fun t10 σ =>
  Do (aUn Go.Proofs.Try.prog .not t9) fun t12 =>
  Do (aGuard t12 false (aIs t10)) fun t14 =>
  Do (aGuard t12 false (aBin Go.Proofs.Try.prog .eql 23 t14 (.val (.pointer none)))) fun t15 =>
  Do (aPick t12 (.val (.bool true)) t15) fun t16 =>
  aCond t16
    (Q (.ret (.val (.bool false))) σ)
    (Do (aBin Go.Proofs.Try.prog .and 3 a0 (.val (.int .i64 127))) fun t18 =>
  Do (aBin Go.Proofs.Try.prog .rem 3 t18 (.val (.int .i64 101))) fun t19 =>
  aLoop (fun go vs σ_1 =>
    At vs 0 fun s0 => At vs 1 fun s4 => At vs 2 fun s5 => At vs 3 fun s6 => Do (aBin Go.Proofs.Try.prog .lss 3 s6 (.val (.int .i64 2))) fun t21 =>
    aCond t21
      (aLoop (fun go_1 vs_1 σ_2 =>
      At vs_1 0 fun s0_1 => At vs_1 1 fun s4_1 => At vs_1 2 fun s5_1 => At vs_1 3 fun s6_1 => At vs_1 4 fun s7 => Do (aBin Go.Proofs.Try.prog .lss 3 s7 s0_1) fun t26 =>
      aCond t26
        (Do (aBin Go.Proofs.Try.prog .add 3 s5_1 (.val (.int .i64 1))) fun t30 =>
      Do (fun x => aConvN 3 5 s7 x Go.Proofs.Try.prog) fun t33 =>
      Do (aSlLit (mkE [.val (.int .u8 0)]) 1 1 [(0, t33)]) fun t34 =>
      Do (aConvBS t34) fun t35 =>
      Do (aBin Go.Proofs.Try.prog .add 9 (.val (.string ⟨#[107]⟩)) t35) fun t36 =>
      Do (aLit [.val (.string ⟨#[]⟩), .val (.string ⟨#[]⟩), .val (.bool false), .val (.int .i64 0)] [(0, 1), (1, 1), (2, 1), (3, 1)] [(0, t36), (3, t30)]) fun t38 =>
      aCall Go.Proofs.Try.prog 11 [s4_1, t38] σ_2 (fun t39 σ_3 =>
      Do (aBin Go.Proofs.Try.prog .eql 25 t39 (.val (.int .i64 0))) fun t41 =>
      Do (aBin Go.Proofs.Try.prog .lss 3 s7 (.val (.int .i64 64))) fun t43 =>
      Do (aBin Go.Proofs.Try.prog .neq 4 t41 t43) fun t44 =>
      Do (aGuard t44 false (aIs t39)) fun t46 =>
      Do (aGuard t44 false (aBin Go.Proofs.Try.prog .neq 25 t46 (.val (.int .i64 0)))) fun t47 =>
      Do (aGuard t44 false (aIs t47)) fun t48 =>
      Do (aGuard t48 true (aIs t39)) fun t49 =>
      Do (aGuard t48 true (aBin Go.Proofs.Try.prog .neq 25 t49 (.val (.int .i64 3)))) fun t50 =>
      Do (aGuard t44 false (aPick t48 t50 (.val (.bool false)))) fun t51 =>
      Do (aPick t44 (.val (.bool true)) t51) fun t52 =>
      aCond t52
        (Q (.ret (.val (.bool false))) σ_3)
        (Do (aBin Go.Proofs.Try.prog .add 3 s7 (.val (.int .i64 1))) fun t28 =>
      go_1 [s0_1, s4_1, t30, s6_1, t28] σ_3)) (fun e σ_4 => Q (.pan e) σ_4))
        (aCall Go.Proofs.Try.prog 12 [s4_1] σ_2 (fun t54 σ_5 =>
    Do (aBuiltin Go.Proofs.Try.prog .min #[3, 3] [s0_1, (.val (.int .i64 64))]) fun t56 =>
    Do (aBin Go.Proofs.Try.prog .neq 3 t54 t56) fun t57 =>
    aCond t57
      (Q (.ret (.val (.bool false))) σ_5)
      (Do (aBin Go.Proofs.Try.prog .add 3 s6_1 (.val (.int .i64 1))) fun t23 =>
    go [s0_1, s4_1, s5_1, t23] σ_5)) (fun e_1 σ_6 => Q (.pan e_1) σ_6)))
      [s0, s4, s5, s6, (.val (.int .i64 0))] σ_1)
      (aCall Go.Proofs.Try.prog 13 [s4] σ_1 (fun t59 σ_7 =>
  Do (aBin Go.Proofs.Try.prog .add 3 s5 (.val (.int .i64 1))) fun t62 =>
  Do (aLit [.val (.string ⟨#[]⟩), .val (.string ⟨#[]⟩), .val (.bool false), .val (.int .i64 0)] [(0, 1), (1, 1), (2, 1), (3, 1)] [(0, (.val (.string ⟨#[111, 116, 104, 101, 114]⟩))), (3, t62)]) fun t63 =>
  aCall Go.Proofs.Try.prog 11 [s4, t63] σ_7 (fun t64 σ_8 =>
  Do (aBin Go.Proofs.Try.prog .eql 25 t64 (.val (.int .i64 0))) fun t65 =>
  Do (aGuard t65 true (aIs s4)) fun t67 =>
  GEff t65 true (aCall Go.Proofs.Try.prog 12 [t67] σ_8 (fun t68 σ_9 =>
    Do (aGuard t65 true (aBin Go.Proofs.Try.prog .eql 3 t68 (.val (.int .i64 1)))) fun t69 =>
  Do (aPick t65 t69 (.val (.bool false))) fun t70 =>
  Q (.ret t70) σ_9) (fun e_2 σ_10 => Q (.pan e_2) σ_10))
  (Do (aGuard t65 true (aBin Go.Proofs.Try.prog .eql 3 (.val Go.undef) (.val (.int .i64 1)))) fun t69_1 =>
  Do (aPick t65 t69_1 (.val (.bool false))) fun t70_1 =>
  Q (.ret t70_1) σ_8)) (fun e_3 σ_11 => Q (.pan e_3) σ_11)) (fun e_4 σ_12 => Q (.pan e_4) σ_12)))
    [t19, t10, (.val (.int .i64 0)), (.val (.int .i64 0))] σ)) (fun e_5 σ_13 => Q (.pan e_5) σ_13)
theorem law10_MemFull.eq (a0 : AV) (σ : Store) (Q : AEnd → Store → Prop) : vc (semOf Go.Proofs.Try.prog law10_MemFull.mark) Go.Proofs.Try.f3.ntmps law10_MemFull.ann (bodyOf Go.Proofs.Try.f3) (endK [.tmp 2] Q) (argFr [a0]) σ = law10_MemFull.sh a0 σ Q := by kernel_rfl
theorem law10_MemFull.go {a0 : AV} {σ : Store} {Q : AEnd → Store → Prop} (h : law10_MemFull.sh a0 σ Q) : ACalls Go.Proofs.Try.prog 3 [a0] σ Q :=
  acalls_of_eq [.tmp 2] Go.Proofs.Try.func3 (by kernel_rfl) (by kernel_rfl) (by kernel_rfl) (by kernel_rfl) (law10_MemFull.eq a0 σ Q) h
set_option maxRecDepth 8000 in
theorem MemFull_ok (a : Int) (ha : (Lit.int .i64 a).wf = true) : aPure Go.Proofs.Try.prog 3 [I .i64 a] (B true) := by
  refine ACalls.fin (law10_MemFull.go ?_)
  unfold law10_MemFull.sh
  have ht : (true : Bool) = true := rfl
  repeat' (first | with_reducible apply Stp.go | with_reducible refine imp fun _ => ?_ | (with_reducible refine hyp ?_ ?_; first | assumption | exact leftT_mem (by assumption)) | (with_reducible refine need ?_ ?_; first | trivial | omega | exact ⟨by assumption, by omega⟩ | (simp only [List.length_append, List.length_cons, List.length_nil, List.length_map, List.length_take, List.length_drop, List.length_replicate, List.length_set]; omega)) | (with_reducible refine fact ?_ ?_; first | trivial | exact ⟨rfl, rfl⟩ | kernel_rfl) | with_reducible refine choT (by assumption) ?_ | with_reducible refine choF (by assumption) ?_ | with_reducible refine choF' (by assumption) ?_ | (with_reducible refine altT ?_ ?_; first | omega | (simp only [List.length_append, List.length_cons, List.length_nil, List.length_map, List.length_take, List.length_drop, List.length_replicate, List.length_set]; omega)) | with_reducible refine altF ?_ | with_reducible refine all fun _ => ?_ | with_reducible refine both ?_ ?_ | (with_reducible refine choT ?_ ?_; omega) | (with_reducible refine choF ?_ ?_; omega) | with_reducible refine cho (fun _ => ?_) (fun _ => ?_))
  rename_i b
  have hn : (a % 128).toNat % 101 ≤ 100 := by omega
  generalize (a % 128).toNat % 101 = n at *
  refine loopI (β := Nat × Nat × Value × List En × Int × List UInt8) (fun x => x.1 ≤ 2 ∧ x.2.1 = x.1 * n ∧ fullI (if x.1 = 0 then 0 else min n 64) x.2.1 x.2.2.2.1 x.2.2.2.2.1 ∧ x.2.2.2.2.2.length = 32) (fun x => [I .i64 (n : Nat), ptrAt b 0, I .i64 (x.2.1 : Nat), I .i64 (x.1 : Nat)]) (fun x => memS b x.2.2.1 x.2.2.2.1 x.2.2.2.2.1 x.2.2.2.2.2) (fun x => 2 - x.1) (0, 0, .slice none 0 0, [], 0, sha []) ⟨by omega, by simp, ⟨memI0 0, Int.le_refl _, rfl, by simp [hasK]⟩, sha_length _⟩ (by simpa using Sub.refl _ _) ?_
  rintro ⟨r, q, v, l, s, c⟩ ⟨h1, h2, h3, h4⟩
  dsimp only at h1 h2 h3 h4 ⊢
  haveI : Len32 c := ⟨h4⟩
  repeat' (first | with_reducible apply Stp.go | with_reducible refine imp fun _ => ?_ | (with_reducible refine hyp ?_ ?_; first | assumption | exact leftT_mem (by assumption)) | (with_reducible refine need ?_ ?_; first | trivial | omega | exact ⟨by assumption, by omega⟩ | (simp only [List.length_append, List.length_cons, List.length_nil, List.length_map, List.length_take, List.length_drop, List.length_replicate, List.length_set]; omega)) | (with_reducible refine fact ?_ ?_; first | trivial | exact ⟨rfl, rfl⟩ | kernel_rfl) | with_reducible refine choT (by assumption) ?_ | with_reducible refine choF (by assumption) ?_ | with_reducible refine choF' (by assumption) ?_ | (with_reducible refine altT ?_ ?_; first | omega | (simp only [List.length_append, List.length_cons, List.length_nil, List.length_map, List.length_take, List.length_drop, List.length_replicate, List.length_set]; omega)) | with_reducible refine altF ?_ | with_reducible refine all fun _ => ?_ | with_reducible refine both ?_ ?_ | (with_reducible refine choT ?_ ?_; omega) | (with_reducible refine choF ?_ ?_; omega) | with_reducible refine cho (fun _ => ?_) (fun _ => ?_))
  · refine loopI (β := Nat × Nat × Value × List En × Int × List UInt8) (fun x => x.1 ≤ n ∧ x.2.1 = r * n + x.1 ∧ fullI (if r = 0 then min x.1 64 else min n 64) x.2.1 x.2.2.2.1 x.2.2.2.2.1 ∧ x.2.2.2.2.2.length = 32) (fun x => [I .i64 (n : Nat), ptrAt b 0, I .i64 (x.2.1 : Nat), I .i64 (r : Nat), I .i64 (x.1 : Nat)]) (fun x => memS b x.2.2.1 x.2.2.2.1 x.2.2.2.2.1 x.2.2.2.2.2) (fun x => n - x.1) (0, q, v, l, s, c) ⟨by omega, by omega, by simpa using h3, h4⟩ (Sub.refl _ _) ?_
    clear h3 h4 this
    rintro ⟨i, q, v, l, s, c⟩ ⟨k1, k2, k3, k4⟩
    dsimp only at k1 k2 k3 k4 ⊢
    haveI : Len32 c := ⟨k4⟩
    have kI := k3.1
    have hb : r * n ≤ 200 := Nat.le_trans (Nat.mul_le_mul (show r ≤ 2 by omega) hn) (by omega)
    by_cases hi : i < n
    · obtain ⟨X1, X2⟩ := fullX k3 (i := i) (by omega) (by split <;> omega) (by split <;> omega) (by omega) (by omega)
      have e1 : max (if r = 0 then min i 64 else min n 64) (min (i + 1) 64) = if r = 0 then min (i + 1) 64 else min n 64 := by split <;> omega
      rw [e1] at X2
      rw [show ((q : Nat) : Int) + 1 = ((q + 1 : Nat) : Int) from rfl] at X1 X2
      simp only [keyN] at X1 X2
      by_cases h64 : i < 64
      · rw [if_pos h64] at X1
        have z : decide (putX l s ⟨[107] ++ [UInt8.ofNat i], [], false, ((q + 1 : Nat) : Int)⟩ = 0) = decide (i < 64) := by rw [X1, decide_eq_true h64]; rfl
        repeat' (first | with_reducible apply Stp.go | with_reducible refine imp fun _ => ?_ | (with_reducible refine hyp ?_ ?_; first | assumption | exact leftT_mem (by assumption)) | (with_reducible refine need ?_ ?_; first | trivial | omega | exact ⟨by assumption, by omega⟩ | (simp only [List.length_append, List.length_cons, List.length_nil, List.length_map, List.length_take, List.length_drop, List.length_replicate, List.length_set]; omega)) | (with_reducible refine fact ?_ ?_; first | trivial | exact ⟨rfl, rfl⟩ | kernel_rfl) | with_reducible refine choT (by assumption) ?_ | with_reducible refine choF (by assumption) ?_ | with_reducible refine choF' (by assumption) ?_ | (with_reducible refine altT ?_ ?_; first | omega | (simp only [List.length_append, List.length_cons, List.length_nil, List.length_map, List.length_take, List.length_drop, List.length_replicate, List.length_set]; omega)) | with_reducible refine altF ?_ | with_reducible refine all fun _ => ?_ | with_reducible refine both ?_ ?_ | (with_reducible refine choT ?_ ?_; omega) | (with_reducible refine choF ?_ ?_; omega) | with_reducible refine cho (fun _ => ?_) (fun _ => ?_))
        all_goals
          rename_i v'
          exact again (i + 1, q + 1, v', _, _, putC l s c ⟨[107] ++ [UInt8.ofNat i], [], false, ((q + 1 : Nat) : Int)⟩) (by dsimp only; omega) ⟨by dsimp only; omega, by dsimp only; omega, X2, Len32.len⟩ (Sub.drop_ (List.sublist_append_left _ _) _)
      · rw [if_neg h64] at X1
        have z : decide (putX l s ⟨[107] ++ [UInt8.ofNat i], [], false, ((q + 1 : Nat) : Int)⟩ = 0) = decide (i < 64) := by rw [X1, decide_eq_false h64]; rfl
        have z3 : ¬ putX l s ⟨[107] ++ [UInt8.ofNat i], [], false, ((q + 1 : Nat) : Int)⟩ = 0 := by rw [X1]; decide
        repeat' (first | with_reducible apply Stp.go | with_reducible refine imp fun _ => ?_ | (with_reducible refine hyp ?_ ?_; first | assumption | exact leftT_mem (by assumption)) | (with_reducible refine need ?_ ?_; first | trivial | omega | exact ⟨by assumption, by omega⟩ | (simp only [List.length_append, List.length_cons, List.length_nil, List.length_map, List.length_take, List.length_drop, List.length_replicate, List.length_set]; omega)) | (with_reducible refine fact ?_ ?_; first | trivial | exact ⟨rfl, rfl⟩ | kernel_rfl) | with_reducible refine choT (by assumption) ?_ | with_reducible refine choF (by assumption) ?_ | with_reducible refine choF' (by assumption) ?_ | (with_reducible refine altT ?_ ?_; first | omega | (simp only [List.length_append, List.length_cons, List.length_nil, List.length_map, List.length_take, List.length_drop, List.length_replicate, List.length_set]; omega)) | with_reducible refine altF ?_ | with_reducible refine all fun _ => ?_ | with_reducible refine both ?_ ?_ | (with_reducible refine choT ?_ ?_; omega) | (with_reducible refine choF ?_ ?_; omega) | with_reducible refine cho (fun _ => ?_) (fun _ => ?_))
        all_goals
          rename_i v'
          exact again (i + 1, q + 1, v', _, _, putC l s c ⟨[107] ++ [UInt8.ofNat i], [], false, ((q + 1 : Nat) : Int)⟩) (by dsimp only; omega) ⟨by dsimp only; omega, by dsimp only; omega, X2, Len32.len⟩ (Sub.drop_ (List.sublist_append_left _ _) _)
    · have hl : l.length = min n 64 := by rw [k3.2.2.1]; split <;> omega
      have e2 : i = n := by omega
      subst e2
      repeat' (first | with_reducible apply Stp.go | with_reducible refine imp fun _ => ?_ | (with_reducible refine hyp ?_ ?_; first | assumption | exact leftT_mem (by assumption)) | (with_reducible refine need ?_ ?_; first | trivial | omega | exact ⟨by assumption, by omega⟩ | (simp only [List.length_append, List.length_cons, List.length_nil, List.length_map, List.length_take, List.length_drop, List.length_replicate, List.length_set]; omega)) | (with_reducible refine fact ?_ ?_; first | trivial | exact ⟨rfl, rfl⟩ | kernel_rfl) | with_reducible refine choT (by assumption) ?_ | with_reducible refine choF (by assumption) ?_ | with_reducible refine choF' (by assumption) ?_ | (with_reducible refine altT ?_ ?_; first | omega | (simp only [List.length_append, List.length_cons, List.length_nil, List.length_map, List.length_take, List.length_drop, List.length_replicate, List.length_set]; omega)) | with_reducible refine altF ?_ | with_reducible refine all fun _ => ?_ | with_reducible refine both ?_ ?_ | (with_reducible refine choT ?_ ?_; omega) | (with_reducible refine choF ?_ ?_; omega) | with_reducible refine cho (fun _ => ?_) (fun _ => ?_))
      refine again (r + 1, q, v, l, s, c) (by dsimp only; omega) ⟨by dsimp only; omega, ?_, ?_, k4⟩ (Sub.refl _ _)
      · show q = (r + 1) * i
        rw [k2, Nat.add_mul, Nat.one_mul]
      · dsimp only
        rw [if_neg (by omega)]
        split at k3
        · exact k3
        · exact k3
  · rename_i hr
    have e3 : r = 2 := by omega
    subst e3
    have hX : putX [] s ⟨[111, 116, 104, 101, 114], [], false, ((q + 1 : Nat) : Int)⟩ = 0 := by
      rw [putX_small ?_ (.inr (by simp)), if_neg]
      · show ¬ ((q + 1 : Nat) : Int) ≤ s
        have := h3.2.1; omega
      · unfold right; simp; omega
    have hL : (putL [] s ⟨[111, 116, 104, 101, 114], [], false, ((q + 1 : Nat) : Int)⟩).length = 1 := by
      rw [putL_put (memI0 s) hX]; rfl
    have iI := memI0 s
    repeat' (first | with_reducible apply Stp.go | with_reducible refine imp fun _ => ?_ | (with_reducible refine hyp ?_ ?_; first | assumption | exact leftT_mem (by assumption)) | (with_reducible refine need ?_ ?_; first | trivial | omega | exact ⟨by assumption, by omega⟩ | (simp only [List.length_append, List.length_cons, List.length_nil, List.length_map, List.length_take, List.length_drop, List.length_replicate, List.length_set]; omega)) | (with_reducible refine fact ?_ ?_; first | trivial | exact ⟨rfl, rfl⟩ | kernel_rfl) | with_reducible refine choT (by assumption) ?_ | with_reducible refine choF (by assumption) ?_ | with_reducible refine choF' (by assumption) ?_ | (with_reducible refine altT ?_ ?_; first | omega | (simp only [List.length_append, List.length_cons, List.length_nil, List.length_map, List.length_take, List.length_drop, List.length_replicate, List.length_set]; omega)) | with_reducible refine altF ?_ | with_reducible refine all fun _ => ?_ | with_reducible refine both ?_ ?_ | (with_reducible refine choT ?_ ?_; omega) | (with_reducible refine choF ?_ ?_; omega) | with_reducible refine cho (fun _ => ?_) (fun _ => ?_))
    refine ⟨_, _, _, rfl, Sub.app_nil _, ?_, rfl⟩
    rw [decide_eq_true hL]
end Go.Ab
