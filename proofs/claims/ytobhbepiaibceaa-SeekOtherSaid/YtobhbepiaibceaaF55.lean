/- What a table has of some keys, checked. -/
import Derived.Test.YtobhbepiaibceaaSp15
import Derived.Test.YtobhbepiaibceaaSt14
set_option linter.unusedVariables false
set_option linter.unusedSimpArgs false
namespace Go.Ab
/-- What comes ahead of the leaves. -/
def spanIn (f g lo hi : List UInt8) (cnt p : Int) (n : Nat) : Bool := overB f g lo hi && decide (n ≠ 0 ∧ (n : Int) ≤ cnt ∧ 0 ≤ p ∧ p ≤ cnt)
/-- What is asked of the entries. -/
def spanL (b : Int) (root : D32) (cnt : Int) (lo hi : List UInt8) (p : Int) (L : List (List UInt8)) (path : List D32) : Bool :=
  !(!lt ((L.map parseV).getD 0 default).key lo && decide (0 < p)) && (!(belowB ((L.map parseV).getD (L.length - 1) default).key hi && decide (p + L.length < cnt)) && (sorted (L.map parseV) && checkR b root cnt p L path))
def spanC (b : Int) (root : D32) (cnt : Int) (f g lo hi : List UInt8) (p : Int) (L : List (List UInt8)) (path : List D32) : Nat × List En :=
  if spanIn f g lo hi cnt p L.length = true then
    if L.all wholeB = true then
      if spanL b root cnt lo hi p L path = true then (0, (L.map parseV).filter (inS lo hi)) else (8, [])
    else (8, [])
  else (8, [])
def seek_CheckSpan_1.mark : Mark := ⟨fun t => Nat.beq t 13, fun t => false, fun t => Nat.beq t 3, fun t => Nat.beq t 6 || Nat.beq t 11, fun t => false⟩
def seek_CheckSpan_1.ann : Ann := ⟨fun n => [], fun n => none, fun n => none⟩
/-- 'marlstone/seek.CheckSpan$1' -/
def seek_CheckSpan_1.sh (a0 a1 a2 : AV) (σ : Store) (Q : AEnd → Store → Prop) : Prop :=
  Do (aFreeze ((a0 : AV)).cells) fun t3 =>
  Do (aFieldAddr 0 1 t3) fun t5 =>
  Do (loadF false 1 t5) fun t6 =>
  Do (loadA false 1 a1 σ) fun t7 =>
  Do (aBin Go.Proofs.Try.prog .lss 9 t6 t7) fun t8 =>
  Do (aGuard t8 false (aFieldAddr 0 1 t3)) fun t10 =>
  Do (aGuard t8 false (loadF false 1 t10)) fun t11 =>
  Do (aGuard t8 false (loadA false 1 a2 σ)) fun t12 =>
  Do (aGuard t8 false (aPureC Go.Proofs.Try.prog 43 [t11, t12])) fun t13 =>
  Do (aGuard t8 false (aUn Go.Proofs.Try.prog .not t13)) fun t14 =>
  Do (aPick t8 (.val (.bool true)) t14) fun t15 =>
  Q (.ret t15) σ
theorem seek_CheckSpan_1.eq (a0 a1 a2 : AV) (σ : Store) (Q : AEnd → Store → Prop) : vc (semOf Go.Proofs.Try.prog seek_CheckSpan_1.mark) Go.Proofs.Try.f56.ntmps seek_CheckSpan_1.ann (bodyOf Go.Proofs.Try.f56) (endK [.tmp 4] Q) (argFr [a0, a1, a2]) σ = seek_CheckSpan_1.sh a0 a1 a2 σ Q := by kernel_rfl
theorem seek_CheckSpan_1.go {a0 a1 a2 : AV} {σ : Store} {Q : AEnd → Store → Prop} (h : seek_CheckSpan_1.sh a0 a1 a2 σ Q) : ACalls Go.Proofs.Try.prog 56 [a0, a1, a2] σ Q :=
  acalls_of_eq [.tmp 4] Go.Proofs.Try.func56 (by kernel_rfl) (by kernel_rfl) (by kernel_rfl) (by kernel_rfl) (seek_CheckSpan_1.eq a0 a1 a2 σ Q) h
def seek_CheckSpan.mark : Mark := ⟨fun t => Nat.beq t 26 || Nat.beq t 59 || Nat.beq t 87 || Nat.beq t 118, fun t => false, fun t => Nat.beq t 5 || Nat.beq t 6 || Nat.beq t 9, fun t => Nat.beq t 21 || Nat.beq t 23 || Nat.beq t 35 || Nat.beq t 40 || Nat.beq t 45 || Nat.beq t 47 || Nat.beq t 51 || Nat.beq t 56 || Nat.beq t 77 || Nat.beq t 90 || Nat.beq t 94 || Nat.beq t 107 || Nat.beq t 109 || Nat.beq t 111 || Nat.beq t 113 || Nat.beq t 115 || Nat.beq t 117, fun t => Nat.beq t 103⟩
def seek_CheckSpan.ann : Ann := ⟨fun n => bif Nat.beq n 6 then [5, 6, 7, 8, 9, 12, 13, 51, 52, 53] else [], fun n => none, fun n => none⟩
/-- 'marlstone/seek.CheckSpan' -/
def seek_CheckSpan.sh (a0 a1 a2 a3 a4 : AV) (σ : Store) (Q : AEnd → Store → Prop) : Prop :=
  Do (aFreeze ((a0 : AV)).cells) fun t5 =>
  Do (aFreeze ((a1 : AV)).cells) fun t6 =>
  aNewVar 9 (a2 : AV).cells σ fun t7 σ =>
  aNewVar 9 (a3 : AV).cells σ fun t8 σ_1 =>
  Do (aFreeze ((a4 : AV)).cells) fun t9 =>
  Do (aFieldAddr 1 1 t9) fun t20 =>
  Do (loadF false 1 t20) fun t21 =>
  Do (aBuiltin Go.Proofs.Try.prog .len #[37] [t21]) fun t22 =>
  Do (loadF true 36 t6) fun t23 =>
  Do (loadA false 1 t7 σ_1) fun t24 =>
  Do (loadA false 1 t8 σ_1) fun t25 =>
  Do (aPureC Go.Proofs.Try.prog 20 [t23, t24, t25]) fun t26 =>
  Do (aUn Go.Proofs.Try.prog .not t26) fun t27 =>
  Do (aGuard t27 false (aIs t22)) fun t29 =>
  Do (aGuard t27 false (aBin Go.Proofs.Try.prog .eql 3 t29 (.val (.int .i64 0)))) fun t30 =>
  Do (aPick t27 (.val (.bool true)) t30) fun t31 =>
  Do (aGuard t31 false (aIs t22)) fun t33 =>
  Do (aGuard t31 false (aFieldAddr 1 1 t6)) fun t34 =>
  Do (aGuard t31 false (loadF false 1 t34)) fun t35 =>
  Do (aGuard t31 false (aBin Go.Proofs.Try.prog .gtr 3 t33 t35)) fun t36 =>
  Do (aPick t31 (.val (.bool true)) t36) fun t37 =>
  Do (aGuard t37 false (aFieldAddr 0 1 t9)) fun t39 =>
  Do (aGuard t37 false (loadF false 1 t39)) fun t40 =>
  Do (aGuard t37 false (aBin Go.Proofs.Try.prog .lss 3 t40 (.val (.int .i64 0)))) fun t41 =>
  Do (aPick t37 (.val (.bool true)) t41) fun t42 =>
  Do (aGuard t42 false (aFieldAddr 0 1 t9)) fun t44 =>
  Do (aGuard t42 false (loadF false 1 t44)) fun t45 =>
  Do (aGuard t42 false (aFieldAddr 1 1 t6)) fun t46 =>
  Do (aGuard t42 false (loadF false 1 t46)) fun t47 =>
  Do (aGuard t42 false (aBin Go.Proofs.Try.prog .gtr 3 t45 t47)) fun t48 =>
  Do (aPick t42 (.val (.bool true)) t48) fun t49 =>
  aCond t49
    (Q (.ret (.tuple [(.val (.slice none 0 0)), (.val (.int .i64 8))])) σ_1)
    (Do (aFieldAddr 1 1 t9) fun t50 =>
  Do (loadF false 1 t50) fun t51 =>
  Do (aBuiltin Go.Proofs.Try.prog .len #[37] [t51]) fun t52 =>
  aLoop (fun go vs σ_2 =>
    At vs 0 fun s5 => At vs 1 fun s6 => At vs 2 fun s7 => At vs 3 fun s8 => At vs 4 fun s9 => At vs 5 fun s12 => At vs 6 fun s13 => At vs 7 fun s51 => At vs 8 fun s52 => At vs 9 fun s53 => Do (aBin Go.Proofs.Try.prog .lss 3 s53 s52) fun t54 =>
    aCond t54
      (Do (aIndexAddr .slice 1 s51 s53) fun t55 =>
    Do (loadF false 1 t55) fun t56 =>
    Do (aPureC Go.Proofs.Try.prog 52 [t56]) fun t59 =>
    Do (aExt t59 0) fun t60 =>
    Do (aExt t59 1) fun t61 =>
    aNewVar 54 [.val (.string ⟨#[]⟩), .val (.string ⟨#[]⟩), .val (.bool false), .val (.int .i64 0)] σ_2 fun t16 σ_3 =>
    storeA 4 t16 t60 σ_3 fun u σ_4 =>
    Do (aUn Go.Proofs.Try.prog .not t61) fun t63 =>
    aCond t63
      (Q (.ret (.tuple [(.val (.slice none 0 0)), (.val (.int .i64 8))])) σ_4)
      (Do (loadA true 4 t16 σ_4) fun t65 =>
    Do (aSlLit (mkE [.val (.string ⟨#[]⟩), .val (.string ⟨#[]⟩), .val (.bool false), .val (.int .i64 0)]) 4 1 [(0, t65)]) fun t66 =>
    aAppend 54 4 48 s13 t66 σ_4 (subK fun t67 σ_5 =>
    Do (aBin Go.Proofs.Try.prog .add 3 s53 (.val (.int .i64 1))) fun t68 =>
    go [s5, s6, s7, s8, s9, s12, t67, s51, s52, t68] σ_5)))
      (Do (aIndexAddr .slice 4 s13 (.val (.int .i64 0))) fun t70 =>
  Do (aFieldAddr 0 1 t70) fun t71 =>
  Do (loadA false 1 t71 σ_2) fun t72 =>
  Do (loadA false 1 s7 σ_2) fun t73 =>
  Do (aBin Go.Proofs.Try.prog .geq 9 t72 t73) fun t74 =>
  Do (aGuard t74 true (aFieldAddr 0 1 s9)) fun t76 =>
  Do (aGuard t74 true (loadF false 1 t76)) fun t77 =>
  Do (aGuard t74 true (aBin Go.Proofs.Try.prog .gtr 3 t77 (.val (.int .i64 0)))) fun t78 =>
  Do (aPick t74 t78 (.val (.bool false))) fun t79 =>
  Do (aBin Go.Proofs.Try.prog .sub 3 s12 (.val (.int .i64 1))) fun t82 =>
  Do (aIndexAddr .slice 4 s13 t82) fun t83 =>
  Do (aFieldAddr 0 1 t83) fun t84 =>
  Do (loadA false 1 t84 σ_2) fun t85 =>
  Do (loadA false 1 s8 σ_2) fun t86 =>
  Do (aPureC Go.Proofs.Try.prog 43 [t85, t86]) fun t87 =>
  Do (aGuard t87 true (aFieldAddr 0 1 s9)) fun t89 =>
  Do (aGuard t87 true (loadF false 1 t89)) fun t90 =>
  Do (aGuard t87 true (aIs s12)) fun t91 =>
  Do (aGuard t87 true (aBin Go.Proofs.Try.prog .add 3 t90 t91)) fun t92 =>
  Do (aGuard t87 true (aFieldAddr 1 1 s6)) fun t93 =>
  Do (aGuard t87 true (loadF false 1 t93)) fun t94 =>
  Do (aGuard t87 true (aBin Go.Proofs.Try.prog .lss 3 t92 t94)) fun t95 =>
  Do (aPick t87 t95 (.val (.bool false))) fun t96 =>
  Do (aGuard t79 false (aIs t96)) fun t99 =>
  Do (aPick t79 (.val (.bool true)) t99) fun t100 =>
  Do (aGuard t100 false (aIs s13)) fun t102 =>
  Do (aGuard t100 false (lookC Go.Proofs.Try.prog 53 [t102] σ_2)) fun t103 =>
  Do (aGuard t100 false (aUn Go.Proofs.Try.prog .not t103)) fun t104 =>
  Do (aPick t100 (.val (.bool true)) t104) fun t105 =>
  Do (aGuard t105 false (loadF true 1 s5)) fun t107 =>
  Do (aGuard t105 false (aFieldAddr 2 32 s6)) fun t108 =>
  Do (aGuard t105 false (loadF true 32 t108)) fun t109 =>
  Do (aGuard t105 false (aFieldAddr 1 1 s6)) fun t110 =>
  Do (aGuard t105 false (loadF false 1 t110)) fun t111 =>
  Do (aGuard t105 false (aFieldAddr 0 1 s9)) fun t112 =>
  Do (aGuard t105 false (loadF false 1 t112)) fun t113 =>
  Do (aGuard t105 false (aFieldAddr 1 1 s9)) fun t114 =>
  Do (aGuard t105 false (loadF false 1 t114)) fun t115 =>
  Do (aGuard t105 false (aFieldAddr 2 1 s9)) fun t116 =>
  Do (aGuard t105 false (loadF false 1 t116)) fun t117 =>
  Do (aGuard t105 false (aPureC Go.Proofs.Try.prog 54 [t107, t109, t111, t113, t115, t117])) fun t118 =>
  Do (aGuard t105 false (aUn Go.Proofs.Try.prog .not t118)) fun t119 =>
  Do (aPick t105 (.val (.bool true)) t119) fun t120 =>
  aCond t120
    (Q (.ret (.tuple [(.val (.slice none 0 0)), (.val (.int .i64 8))])) σ_2)
    (aCall Go.Proofs.Try.prog 55 [s13, (.fn (.func 56) [] [s7, s8])] σ_2 (fun t123 σ_6 =>
  Q (.ret (.tuple [t123, (.val (.int .i64 0))])) σ_6) (fun e σ_7 => Q (.pan e) σ_7))))
    [t5, t6, t7, t8, t9, t22, (.val (.slice none 0 0)), t51, t52, (.val (.int .i64 0))] σ_1)
theorem seek_CheckSpan.eq (a0 a1 a2 a3 a4 : AV) (σ : Store) (Q : AEnd → Store → Prop) : vc (semOf Go.Proofs.Try.prog seek_CheckSpan.mark) Go.Proofs.Try.f26.ntmps seek_CheckSpan.ann (bodyOf Go.Proofs.Try.f26) (endK [.tmp 10, .tmp 11] Q) (argFr [a0, a1, a2, a3, a4]) σ = seek_CheckSpan.sh a0 a1 a2 a3 a4 σ Q := by kernel_rfl
theorem seek_CheckSpan.go {a0 a1 a2 a3 a4 : AV} {σ : Store} {Q : AEnd → Store → Prop} (h : seek_CheckSpan.sh a0 a1 a2 a3 a4 σ Q) : ACalls Go.Proofs.Try.prog 26 [a0, a1, a2, a3, a4] σ Q :=
  acalls_of_eq [.tmp 10, .tmp 11] Go.Proofs.Try.func26 (by kernel_rfl) (by kernel_rfl) (by kernel_rfl) (by kernel_rfl) (seek_CheckSpan.eq a0 a1 a2 a3 a4 σ Q) h
theorem cspan1_ok (e : En) (lo hi : List UInt8) : aPure Go.Proofs.Try.prog 56 [e.av, .rptr [S lo], .rptr [S hi]] (B (!inS lo hi e)) := by
  refine seek_CheckSpan_1.go ?_
  unfold seek_CheckSpan_1.sh
  cases h : lt e.key lo with
  | true =>
    have e : inS lo hi e = false := by unfold inS; rw [h]; rfl
    rw [e]
    repeat' (first | with_reducible apply Stp.go | with_reducible refine imp fun _ => ?_ | (with_reducible refine hyp ?_ ?_; first | assumption | exact leftT_mem (by assumption)) | (with_reducible refine need ?_ ?_; first | trivial | omega | exact ⟨by assumption, by omega⟩ | (simp only [List.length_append, List.length_cons, List.length_nil, List.length_map, List.length_take, List.length_drop, List.length_replicate, List.length_set]; omega)) | (with_reducible refine fact ?_ ?_; first | trivial | exact ⟨rfl, rfl⟩ | kernel_rfl) | with_reducible refine choT (by assumption) ?_ | with_reducible refine choF (by assumption) ?_ | with_reducible refine choF' (by assumption) ?_ | (with_reducible refine altT ?_ ?_; first | omega | (simp only [List.length_append, List.length_cons, List.length_nil, List.length_map, List.length_take, List.length_drop, List.length_replicate, List.length_set]; omega)) | with_reducible refine altF ?_ | with_reducible refine all fun _ => ?_ | with_reducible refine both ?_ ?_ | (with_reducible refine choT ?_ ?_; omega) | (with_reducible refine choF ?_ ?_; omega) | with_reducible refine cho (fun _ => ?_) (fun _ => ?_))
    all_goals exact ⟨rfl, rfl⟩
  | false =>
    have e : inS lo hi e = belowB e.key hi := by unfold inS; rw [h]; rfl
    rw [e]
    have hff : ¬ (false : Bool) = true := by decide
    repeat' (first | with_reducible apply Stp.go | with_reducible refine imp fun _ => ?_ | (with_reducible refine hyp ?_ ?_; first | assumption | exact leftT_mem (by assumption)) | (with_reducible refine need ?_ ?_; first | trivial | omega | exact ⟨by assumption, by omega⟩ | (simp only [List.length_append, List.length_cons, List.length_nil, List.length_map, List.length_take, List.length_drop, List.length_replicate, List.length_set]; omega)) | (with_reducible refine fact ?_ ?_; first | trivial | exact ⟨rfl, rfl⟩ | kernel_rfl) | with_reducible refine choT (by assumption) ?_ | with_reducible refine choF (by assumption) ?_ | with_reducible refine choF' (by assumption) ?_ | (with_reducible refine altT ?_ ?_; first | omega | (simp only [List.length_append, List.length_cons, List.length_nil, List.length_map, List.length_take, List.length_drop, List.length_replicate, List.length_set]; omega)) | with_reducible refine altF ?_ | with_reducible refine all fun _ => ?_ | with_reducible refine both ?_ ?_ | (with_reducible refine choT ?_ ?_; omega) | (with_reducible refine choF ?_ ?_; omega) | with_reducible refine cho (fun _ => ?_) (fun _ => ?_))
    all_goals exact ⟨rfl, rfl⟩
instance {lo hi : List UInt8} : Pred Go.Proofs.Try.prog (.fn (.func 56) [] [.rptr [S lo], .rptr [S hi]]) (fun e => !inS lo hi e) := ⟨fun e => ⟨_, [], [.rptr [S lo], .rptr [S hi]], _, rfl, SubVs.refl _, cspan1_ok e lo hi⟩⟩
theorem CheckSpan_ok (b lev cnt : Int) (d f g lo hi : List UInt8) [hd : Len32 d] (p : Int) (L : List (List UInt8)) (path : List D32) (hc : cnt ≤ 9223372036854775807) (hl : L.length ≤ 1000000) (hb : ∀ b ∈ L, b.length ≤ 100000000000000) :
    aPure Go.Proofs.Try.prog 26 [trA b, tabA lev cnt d f g, S lo, S hi, spA p L path] (.tuple [.lst 4 ((spanC b ⟨d, hd.len⟩ cnt f g lo hi p L path).2.map En.av) .ro, I .i64 ((spanC b ⟨d, hd.len⟩ cnt f g lo hi p L path).1 : Nat)]) := by
  refine ACalls.fin (seek_CheckSpan.go ?_)
  unfold seek_CheckSpan.sh
  cases hin : spanIn f g lo hi cnt p L.length with
  | false =>
    have e : spanC b ⟨d, hd.len⟩ cnt f g lo hi p L path = (8, []) := by unfold spanC; rw [if_neg (by rw [hin]; decide)]
    rw [e]
    unfold spanIn at hin
    by_cases hc2 : L.length ≠ 0 ∧ (L.length : Int) ≤ cnt ∧ 0 ≤ p ∧ p ≤ cnt
    · rw [decide_eq_true hc2, Bool.and_true] at hin
      have hff : ¬ overB f g lo hi = true := by rw [hin]; decide
      repeat' (first | with_reducible apply Stp.go | with_reducible refine imp fun _ => ?_ | (with_reducible refine hyp ?_ ?_; first | assumption | exact leftT_mem (by assumption)) | (with_reducible refine need ?_ ?_; first | trivial | omega | exact ⟨by assumption, by omega⟩ | (simp only [List.length_append, List.length_cons, List.length_nil, List.length_map, List.length_take, List.length_drop, List.length_replicate, List.length_set]; omega)) | (with_reducible refine fact ?_ ?_; first | trivial | exact ⟨rfl, rfl⟩ | kernel_rfl) | with_reducible refine choT (by assumption) ?_ | with_reducible refine choF (by assumption) ?_ | with_reducible refine choF' (by assumption) ?_ | (with_reducible refine altT ?_ ?_; first | omega | (simp only [List.length_append, List.length_cons, List.length_nil, List.length_map, List.length_take, List.length_drop, List.length_replicate, List.length_set]; omega)) | with_reducible refine altF ?_ | with_reducible refine all fun _ => ?_ | with_reducible refine both ?_ ?_ | (with_reducible refine choT ?_ ?_; omega) | (with_reducible refine choF ?_ ?_; omega) | with_reducible refine cho (fun _ => ?_) (fun _ => ?_))
      all_goals exact ⟨_, _, _, rfl, Sub.tuple (retNil En.av (sz := 4) (by decide) (Sub.app_nil _)), rfl, rfl⟩
    · repeat' (first | with_reducible apply Stp.go | with_reducible refine imp fun _ => ?_ | (with_reducible refine hyp ?_ ?_; first | assumption | exact leftT_mem (by assumption)) | (with_reducible refine need ?_ ?_; first | trivial | omega | exact ⟨by assumption, by omega⟩ | (simp only [List.length_append, List.length_cons, List.length_nil, List.length_map, List.length_take, List.length_drop, List.length_replicate, List.length_set]; omega)) | (with_reducible refine fact ?_ ?_; first | trivial | exact ⟨rfl, rfl⟩ | kernel_rfl) | with_reducible refine choT (by assumption) ?_ | with_reducible refine choF (by assumption) ?_ | with_reducible refine choF' (by assumption) ?_ | (with_reducible refine altT ?_ ?_; first | omega | (simp only [List.length_append, List.length_cons, List.length_nil, List.length_map, List.length_take, List.length_drop, List.length_replicate, List.length_set]; omega)) | with_reducible refine altF ?_ | with_reducible refine all fun _ => ?_ | with_reducible refine both ?_ ?_ | (with_reducible refine choT ?_ ?_; omega) | (with_reducible refine choF ?_ ?_; omega) | with_reducible refine cho (fun _ => ?_) (fun _ => ?_))
      all_goals first
        | exact ⟨_, _, _, rfl, Sub.tuple (retNil En.av (sz := 4) (by decide) (Sub.app_nil _)), rfl, rfl⟩
        | (exfalso; omega)
  | true =>
    have hin' := hin
    unfold spanIn at hin'
    rw [Bool.and_eq_true, decide_eq_true_eq] at hin'
    obtain ⟨h1, h2, h3, h4, h5⟩ := hin'
    have h6 : ¬ cnt < (L.length : Int) := by omega
    have h7 : ¬ p < 0 := by omega
    have h8 : ¬ cnt < p := by omega
    repeat' (first | with_reducible apply Stp.go | with_reducible refine imp fun _ => ?_ | (with_reducible refine hyp ?_ ?_; first | assumption | exact leftT_mem (by assumption)) | (with_reducible refine need ?_ ?_; first | trivial | omega | exact ⟨by assumption, by omega⟩ | (simp only [List.length_append, List.length_cons, List.length_nil, List.length_map, List.length_take, List.length_drop, List.length_replicate, List.length_set]; omega)) | (with_reducible refine fact ?_ ?_; first | trivial | exact ⟨rfl, rfl⟩ | kernel_rfl) | with_reducible refine choT (by assumption) ?_ | with_reducible refine choF (by assumption) ?_ | with_reducible refine choF' (by assumption) ?_ | (with_reducible refine altT ?_ ?_; first | omega | (simp only [List.length_append, List.length_cons, List.length_nil, List.length_map, List.length_take, List.length_drop, List.length_replicate, List.length_set]; omega)) | with_reducible refine altF ?_ | with_reducible refine all fun _ => ?_ | with_reducible refine both ?_ ?_ | (with_reducible refine choT ?_ ?_; omega) | (with_reducible refine choF ?_ ?_; omega) | with_reducible refine cho (fun _ => ?_) (fun _ => ?_))
    rename_i r1 r2
    refine loopI (β := Nat × Value) (fun x => x.1 ≤ L.length ∧ (L.take x.1).all wholeB = true) (fun x => [.rptr [I .i64 b], .rptr (tabCs lev cnt d f g), ptrAt r1 0, ptrAt r2 0, .rptr [I .i64 p, .lst 1 (L.map bl) .ro, .lst 32 (path.map dgF) .ro], I .i64 (L.length : Nat), .own x.2 ((L.take x.1).map parseV).length, .lst 1 (L.map bl) .ro, I .i64 (L.length : Nat), I .i64 (x.1 : Nat)])
      (fun x => [.row x.2 54 4 (((L.take x.1).map parseV).map En.av) 0, .var r2 9 [S hi], .var r1 9 [S lo]]) (fun x => L.length - x.1) (0, .slice none 0 0) ⟨Nat.zero_le _, rfl⟩ (Sub.nil_own 54 (sz := 4) (by decide) [_, _] [_, _, _, _, _, _] [_, _, _]) ?_
    rintro ⟨i, v⟩ ⟨q1, q2⟩
    dsimp only at q1 q2 ⊢
    by_cases hlt : i < L.length
    · have e1 : (L.take (i + 1)).map parseV = (L.take i).map parseV ++ [parseV (L.getD i default)] := by rw [take_succ_d hlt, List.map_append]; rfl
      have e2 : (L.take (i + 1)).all wholeB = ((L.take i).all wholeB && wholeB (L.getD i default)) := by rw [take_succ_d hlt, List.all_append]; simp
      have hb0 : (L.getD i default).length ≤ 100000000000000 := hb _ (getD_mem hlt)
      have hk : ((L.take i).map parseV).length ≤ L.length := by simp; omega
      cases hw : wholeB (L.getD i default) with
      | true =>
        repeat' (first | with_reducible apply Stp.go | with_reducible refine imp fun _ => ?_ | (with_reducible refine hyp ?_ ?_; first | assumption | exact leftT_mem (by assumption)) | (with_reducible refine need ?_ ?_; first | trivial | omega | exact ⟨by assumption, by omega⟩ | (simp only [List.length_append, List.length_cons, List.length_nil, List.length_map, List.length_take, List.length_drop, List.length_replicate, List.length_set]; omega)) | (with_reducible refine fact ?_ ?_; first | trivial | exact ⟨rfl, rfl⟩ | kernel_rfl) | with_reducible refine choT (by assumption) ?_ | with_reducible refine choF (by assumption) ?_ | with_reducible refine choF' (by assumption) ?_ | (with_reducible refine altT ?_ ?_; first | omega | (simp only [List.length_append, List.length_cons, List.length_nil, List.length_map, List.length_take, List.length_drop, List.length_replicate, List.length_set]; omega)) | with_reducible refine altF ?_ | with_reducible refine all fun _ => ?_ | with_reducible refine both ?_ ?_ | (with_reducible refine choT ?_ ?_; omega) | (with_reducible refine choF ?_ ?_; omega) | with_reducible refine cho (fun _ => ?_) (fun _ => ?_))
        rename_i w
        refine again (i + 1, w) (by dsimp only; omega) ⟨by dsimp only; omega, by dsimp only; rw [e2, q2, hw]; rfl⟩ ?_
        dsimp only
        rw [e1]
        exact Sub.drop_ (List.sublist_cons_self _ _) _
      | false =>
        have e : spanC b ⟨d, hd.len⟩ cnt f g lo hi p L path = (8, []) := by
          unfold spanC
          rw [if_pos hin, if_neg]
          intro h
          have := List.all_eq_true.1 h _ (getD_mem hlt)
          rw [hw] at this; cases this
        rw [e]
        repeat' (first | with_reducible apply Stp.go | with_reducible refine imp fun _ => ?_ | (with_reducible refine hyp ?_ ?_; first | assumption | exact leftT_mem (by assumption)) | (with_reducible refine need ?_ ?_; first | trivial | omega | exact ⟨by assumption, by omega⟩ | (simp only [List.length_append, List.length_cons, List.length_nil, List.length_map, List.length_take, List.length_drop, List.length_replicate, List.length_set]; omega)) | (with_reducible refine fact ?_ ?_; first | trivial | exact ⟨rfl, rfl⟩ | kernel_rfl) | with_reducible refine choT (by assumption) ?_ | with_reducible refine choF (by assumption) ?_ | with_reducible refine choF' (by assumption) ?_ | (with_reducible refine altT ?_ ?_; first | omega | (simp only [List.length_append, List.length_cons, List.length_nil, List.length_map, List.length_take, List.length_drop, List.length_replicate, List.length_set]; omega)) | with_reducible refine altF ?_ | with_reducible refine all fun _ => ?_ | with_reducible refine both ?_ ?_ | (with_reducible refine choT ?_ ?_; omega) | (with_reducible refine choF ?_ ?_; omega) | with_reducible refine cho (fun _ => ?_) (fun _ => ?_))
        exact ⟨_, _, _, rfl, Sub.tuple (retNil En.av (sz := 4) (by decide) (Sub.app_nil _)), rfl, rfl⟩
    · have e1 : i = L.length := by omega
      subst e1
      rw [List.take_length] at q2
      rw [List.take_length]
      have e : spanC b ⟨d, hd.len⟩ cnt f g lo hi p L path = if spanL b ⟨d, hd.len⟩ cnt lo hi p L path = true then (0, (L.map parseV).filter (inS lo hi)) else (8, []) := by unfold spanC; rw [if_pos hin, if_pos q2]
      rw [e]
      have hml : (L.map parseV).length = L.length := by simp
      generalize hM : L.map parseV = M at *
      have g1 : L.length - 1 < M.length := by omega
      have fin : ∀ (σ : Store), spanL b ⟨d, hd.len⟩ cnt lo hi p L path = false → ∃ u u1 τ, AEnd.ret (AV.tuple [.val (.slice none 0 0), .val (.int .i64 8)]) = .ret u ∧ Sub σ [u] τ [u1] ∧ AEnd.ret u1 = .ret (.tuple [.lst 4 ((if spanL b ⟨d, hd.len⟩ cnt lo hi p L path = true then (0, M.filter (inS lo hi)) else ((8, []) : Nat × List En)).2.map En.av) .ro, I .i64 ((if spanL b ⟨d, hd.len⟩ cnt lo hi p L path = true then (0, M.filter (inS lo hi)) else ((8, []) : Nat × List En)).1 : Nat)]) ∧ τ = [] := by
        intro σ h
        rw [if_neg (by rw [h]; decide)]
        exact ⟨_, _, _, rfl, Sub.tuple (retNil En.av (sz := 4) (by decide) (Sub.app_nil _)), rfl, rfl⟩
      have es : spanL b ⟨d, hd.len⟩ cnt lo hi p L path = (!(!lt (M.getD 0 default).key lo && decide (0 < p)) && (!(belowB (M.getD (L.length - 1) default).key hi && decide (p + L.length < cnt)) && (sorted M && checkR b ⟨d, hd.len⟩ cnt p L path))) := by unfold spanL; rw [hM]
      have hq : cnt ≤ 9223372036854775807 ∧ L.length ≤ 1000000000 ∧ ∀ (b : List UInt8), b ∈ L → b.length ≤ 100000000000000 := ⟨hc, by omega, hb⟩
      by_cases hov : p + L.length ≤ 9223372036854775807
      · repeat' (first | with_reducible apply Stp.go | with_reducible refine imp fun _ => ?_ | (with_reducible refine hyp ?_ ?_; first | assumption | exact leftT_mem (by assumption)) | (with_reducible refine need ?_ ?_; first | trivial | omega | exact ⟨by assumption, by omega⟩ | (simp only [List.length_append, List.length_cons, List.length_nil, List.length_map, List.length_take, List.length_drop, List.length_replicate, List.length_set]; omega)) | (with_reducible refine fact ?_ ?_; first | trivial | exact ⟨rfl, rfl⟩ | kernel_rfl) | with_reducible refine choT (by assumption) ?_ | with_reducible refine choF (by assumption) ?_ | with_reducible refine choF' (by assumption) ?_ | (with_reducible refine altT ?_ ?_; first | omega | (simp only [List.length_append, List.length_cons, List.length_nil, List.length_map, List.length_take, List.length_drop, List.length_replicate, List.length_set]; omega)) | with_reducible refine altF ?_ | with_reducible refine all fun _ => ?_ | with_reducible refine both ?_ ?_ | (with_reducible refine choT ?_ ?_; omega) | (with_reducible refine choF ?_ ?_; omega) | with_reducible refine cho (fun _ => ?_) (fun _ => ?_))
        all_goals first
          | exact fin _ (by rw [es]; simp_all [lt])
          | skip
        all_goals
          refine callBy (args' := [.own v M.length, .fn (.func 56) [] [.rptr [S lo], .rptr [S hi]]]) (σ' := [.row v 54 4 (M.map En.av) 0]) (Sub.trans (Sub.frzVar (b := r1)) (Sub.frzVar (b := r2))) ⟨by omega, by omega⟩ fun l' hl' => ?_
          have hok : spanL b ⟨d, hd.len⟩ cnt lo hi p L path = true := by rw [es]; simp_all [lt]
          rw [if_pos hok]
          dsimp only
          have hk : (M.filter fun e => !!inS lo hi e).length ≤ M.length := List.length_filter_le _ _
          simp only [Bool.not_not] at hk hl'
          have hk2 : (M.filter (inS lo hi)).length ≤ l'.length := by rw [hl'.1]; exact hk
          refine ⟨_, _, _, rfl, Sub.tuple (Sub.cons_sub (σ1 := []) (σ2 := []) (by simpa using hk2) (Sub.refl _ _)), ?_, rfl⟩
          simp only [Bool.not_not]
          rw [List.drop_zero, ← List.map_take, hl'.2]
          rfl
      · have hlow : ∀ (t : TypeId) (K : AV → Prop), Stp (Do (aBin Go.Proofs.Try.prog .add t (.val (.int .i64 p)) (.val (.int .i64 ((L.length : Nat) : Int)))) K) (K (.val (.int .i64 (p + L.length - 18446744073709551616)))) := fun t K => ⟨fun hK => by
          refine s_add ?_
          have : IntKind.wrap .i64 (p + ((L.length : Nat) : Int)) = p + L.length - 18446744073709551616 := by
            simp only [IntKind.wrap, IntKind.bits, IntKind.signed]
            simp
            split <;> omega
          rw [this]
          exact hK⟩
        have hcr : checkR b ⟨d, hd.len⟩ cnt p L path = false := by
          unfold checkR
          rw [decide_eq_false (by omega), Bool.false_and]
        have hff : ¬ (false : Bool) = true := by decide
        have hlt2 : p + L.length - 18446744073709551616 < cnt := by omega
        repeat' (first | with_reducible apply Stp.go | with_reducible refine imp fun _ => ?_ | (with_reducible refine hyp ?_ ?_; first | assumption | exact leftT_mem (by assumption)) | (with_reducible refine need ?_ ?_; first | trivial | omega | exact ⟨by assumption, by omega⟩ | (simp only [List.length_append, List.length_cons, List.length_nil, List.length_map, List.length_take, List.length_drop, List.length_replicate, List.length_set]; omega)) | (with_reducible refine fact ?_ ?_; first | trivial | exact ⟨rfl, rfl⟩ | kernel_rfl) | with_reducible refine choT (by assumption) ?_ | with_reducible refine choF (by assumption) ?_ | with_reducible refine choF' (by assumption) ?_ | (with_reducible refine altT ?_ ?_; first | omega | (simp only [List.length_append, List.length_cons, List.length_nil, List.length_map, List.length_take, List.length_drop, List.length_replicate, List.length_set]; omega)) | with_reducible refine altF ?_ | with_reducible refine all fun _ => ?_ | with_reducible refine both ?_ ?_ | (with_reducible refine choT ?_ ?_; omega) | (with_reducible refine choF ?_ ?_; omega) | with_reducible refine cho (fun _ => ?_) (fun _ => ?_))
        all_goals exact fin _ (by rw [es, hcr]; simp)
instance {b lev cnt : Int} {d f g lo hi : List UInt8} [hd : Len32 d] {p : Int} {L : List (List UInt8)} {path : List D32} : PC Go.Proofs.Try.prog 26 [trA b, tabA lev cnt d f g, S lo, S hi, spA p L path] (cnt ≤ 9223372036854775807 ∧ L.length ≤ 1000000 ∧ ∀ b ∈ L, b.length ≤ 100000000000000) (.tuple [.lst 4 ((spanC b ⟨d, hd.len⟩ cnt f g lo hi p L path).2.map En.av) .ro, I .i64 ((spanC b ⟨d, hd.len⟩ cnt f g lo hi p L path).1 : Nat)]) := ⟨fun hl => PC.of (CheckSpan_ok b lev cnt d f g lo hi p L path hl.1 hl.2.1 hl.2.2)⟩
end Go.Ab
