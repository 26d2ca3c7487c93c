/- The law EntryMaps: what its function does. -/
import Derived.Test.YtopmpooglnfalaaF16
import Derived.Test.YtopmpooglnfalaaSp10
set_option linter.unusedVariables false
set_option linter.unusedSimpArgs false
namespace Go.Ab
def law03_EntryMaps.mark : Mark := ⟨fun t => Nat.beq t 13 || Nat.beq t 17 || Nat.beq t 58 || Nat.beq t 84, fun t => Nat.beq t 47, fun t => false, fun t => false, fun t => false⟩
def law03_EntryMaps.ann : Ann := ⟨fun n => bif Nat.beq n 6 then [0, 3, 5, 6] else bif Nat.beq n 17 then [3, 5, 7, 8, 11, 12] else [], fun n => bif Nat.beq n 22 then some [3, 5, 7, 8, 11, 12] else none, fun n => bif Nat.beq n 11 then some [3, 5, 7, 8] else none⟩
/-- 'marlstone/marlstonelaw03.EntryMaps' -/
def law03_EntryMaps.sh (a0 a1 : AV) (σ : Store) (Q : AEnd → Store → Prop) : Prop :=
  aNewVar 35 (a1 : AV).cells σ fun t3 σ =>
  Do (aPureC Go.Proofs.Try.prog 29 []) fun t13 =>
  aCall Go.Proofs.Try.prog 32 [a0, (.val (.int .i64 60))] σ (fun t15 σ_1 =>
  Do (loadA true 4 t3 σ_1) fun t16 =>
  Do (aPureC Go.Proofs.Try.prog 39 [t16]) fun t17 =>
  storeA 4 t3 t17 σ_1 fun u σ_2 =>
  Do (aFieldAddr 3 1 t3) fun t18 =>
  storeA 1 t18 (.val (.int .i64 1)) σ_2 fun u_1 σ_3 =>
  aLoop (fun go vs σ_4 =>
    At vs 0 fun s0 => At vs 1 fun s3 => At vs 2 fun s5 => At vs 3 fun s6 => Do (aBuiltin Go.Proofs.Try.prog .len #[22] [s0]) fun t21 =>
    Do (aBin Go.Proofs.Try.prog .lss 3 s6 t21) fun t22 =>
    aCond t22
      (Do (aIndexAddr .slice 4 s0 s6) fun t29 =>
    Do (aFieldAddr 3 1 t29) fun t30 =>
    Do (loadA false 1 t30 σ_4) fun t31 =>
    Do (aBin Go.Proofs.Try.prog .and 3 t31 (.val (.int .i64 65535))) fun t32 =>
    Do (aIndexAddr .slice 4 s0 s6) fun t33 =>
    Do (aFieldAddr 3 1 t33) fun t34 =>
    storeA 1 t34 t32 σ_4 fun u_2 σ_5 =>
    Do (aFieldAddr 3 1 s3) fun t35 =>
    Do (loadA false 1 t35 σ_5) fun t36 =>
    Do (aIndexAddr .slice 4 s0 s6) fun t39 =>
    Do (aFieldAddr 3 1 t39) fun t40 =>
    Do (loadA false 1 t40 σ_5) fun t41 =>
    Do (aBin Go.Proofs.Try.prog .add 3 t41 (.val (.int .i64 1))) fun t42 =>
    Do (aBuiltin Go.Proofs.Try.prog .max #[3, 3] [t36, t42]) fun t43 =>
    Do (aFieldAddr 3 1 s3) fun t44 =>
    storeA 1 t44 t43 σ_5 fun u_3 σ_6 =>
    Do (aBin Go.Proofs.Try.prog .add 3 s6 (.val (.int .i64 1))) fun t24 =>
    go [s0, s3, s5, t24] σ_6)
      (aCall Go.Proofs.Try.prog 35 [s0] σ_4 (fun t46 σ_7 =>
  aJoin (fun j =>
    Both (aRowL 35 (mkE [.val (.string ⟨#[]⟩), .val (.string ⟨#[]⟩), .val (.bool false), .val (.int .i64 0)]) 4 0 [] σ_7 fun t47 σ_9 =>
    Both (aAppend 35 4 48 t47 s0 σ_9 (subK fun t49 σ_10 =>
    Do (loadA true 4 s3 σ_10) fun t50 =>
    Do (aSlLit (mkE [.val (.string ⟨#[]⟩), .val (.string ⟨#[]⟩), .val (.bool false), .val (.int .i64 0)]) 4 1 [(0, t50)]) fun t51 =>
    aAppend 35 4 48 t49 t51 σ_10 (subF fun t52 σ_11 =>
    aCall Go.Proofs.Try.prog 35 [t52] σ_11 (fun t53 σ_12 =>
    j [s3, s5, t46, t53] σ_12) (fun e σ_13 => False)))) (Do (loadA true 4 s3 σ_9) fun t50_1 =>
    Do (aSlLit (mkE [.val (.string ⟨#[]⟩), .val (.string ⟨#[]⟩), .val (.bool false), .val (.int .i64 0)]) 4 1 [(0, t50_1)]) fun t51_1 =>
    aAppend 35 4 48 t47 s0 σ_9 (subK fun t49_1 σ_14 =>
    aAppend 35 4 48 t49_1 t51_1 σ_14 (subF fun t52_1 σ_15 =>
    aCall Go.Proofs.Try.prog 35 [t52_1] σ_15 (fun t53_1 σ_16 =>
    j [s3, s5, t46, t53_1] σ_16) (fun e_1 σ_17 => False))))) (Do (loadA true 4 s3 σ_7) fun t50_2 =>
    Do (aSlLit (mkE [.val (.string ⟨#[]⟩), .val (.string ⟨#[]⟩), .val (.bool false), .val (.int .i64 0)]) 4 1 [(0, t50_2)]) fun t51_2 =>
    aRowL 35 (mkE [.val (.string ⟨#[]⟩), .val (.string ⟨#[]⟩), .val (.bool false), .val (.int .i64 0)]) 4 0 [] σ_7 fun t47_1 σ_18 =>
    aAppend 35 4 48 t47_1 s0 σ_18 (subK fun t49_2 σ_19 =>
    aAppend 35 4 48 t49_2 t51_2 σ_19 (subF fun t52_2 σ_20 =>
    aCall Go.Proofs.Try.prog 35 [t52_2] σ_20 (fun t53_2 σ_21 =>
    j [s3, s5, t46, t53_2] σ_21) (fun e_2 σ_22 => False))))) fun vs_1 σ_8 =>
  At vs_1 0 fun s3_1 => At vs_1 1 fun s5_1 => At vs_1 2 fun s7 => At vs_1 3 fun s8 => Do (aFieldAddr 0 1 s3_1) fun t56 =>
  Do (loadA false 1 t56 σ_8) fun t57 =>
  Do (aPureC Go.Proofs.Try.prog 33 [s8, t57]) fun t58 =>
  Do (aExt t58 0) fun t59 =>
  Do (aExt t58 1) fun t60 =>
  Do (aFieldAddr 2 1 s3_1) fun t62 =>
  Do (loadA false 1 t62 σ_8) fun t63 =>
  Do (aBin Go.Proofs.Try.prog .eql 4 t60 t63) fun t64 =>
  Do (aGuard t64 false (aIs t60)) fun t66 =>
  Do (aGuard t64 false (aIs t66)) fun t67 =>
  Do (aGuard t67 true (aIs t59)) fun t68 =>
  Do (aGuard t67 true (aIs s8)) fun t69 =>
  Do (aGuard t67 true (aBuiltin Go.Proofs.Try.prog .len #[22] [t69])) fun t70 =>
  Do (aGuard t67 true (aBin Go.Proofs.Try.prog .geq 3 t68 t70)) fun t71 =>
  Do (aGuard t67 true (aIs t71)) fun t72 =>
  Do (aGuard t72 false (aIs s8)) fun t73 =>
  Do (aGuard t72 false (aIs t59)) fun t74 =>
  Do (aGuard t72 false (aIndexAddr .slice 4 t73 t74)) fun t75 =>
  Do (aGuard t72 false (loadA true 4 t75 σ_8)) fun t76 =>
  Do (aGuard t72 false (loadA true 4 s3_1 σ_8)) fun t77 =>
  Do (aGuard t72 false (aBin Go.Proofs.Try.prog .neq 35 t76 t77)) fun t78 =>
  Do (aGuard t67 true (aPick t72 (.val (.bool true)) t78)) fun t79 =>
  Do (aGuard t64 false (aPick t67 t79 (.val (.bool false)))) fun t80 =>
  Do (aPick t64 (.val (.bool true)) t80) fun t81 =>
  Do (aGuard t81 false (aIs s8)) fun t83 =>
  Do (aGuard t81 false (aPureC Go.Proofs.Try.prog 23 [t83])) fun t84 =>
  Do (aGuard t81 false (aUn Go.Proofs.Try.prog .not t84)) fun t85 =>
  Do (aPick t81 (.val (.bool true)) t85) fun t86 =>
  aCond t86
    (Q (.ret (.val (.bool false))) σ_8)
    (aLoop (fun go_1 vs_2 σ_23 =>
    At vs_2 0 fun s3_2 => At vs_2 1 fun s5_2 => At vs_2 2 fun s7_1 => At vs_2 3 fun s8_1 => At vs_2 4 fun s11 => At vs_2 5 fun s12 => Do (aBuiltin Go.Proofs.Try.prog .len #[22] [s7_1]) fun t89 =>
    Do (aBin Go.Proofs.Try.prog .lss 3 s12 t89) fun t90 =>
    aCond t90
      (Do (aIndexAddr .slice 4 s7_1 s12) fun t95 =>
    Do (aFieldAddr 0 1 t95) fun t96 =>
    Do (loadA false 1 t96 σ_23) fun t97 =>
    Do (aFieldAddr 0 1 s3_2) fun t98 =>
    Do (loadA false 1 t98 σ_23) fun t99 =>
    Do (aBin Go.Proofs.Try.prog .eql 9 t97 t99) fun t100 =>
    aCond t100
      (Do (aBin Go.Proofs.Try.prog .add 3 s12 (.val (.int .i64 1))) fun t92 =>
    go_1 [s3_2, s5_2, s7_1, s8_1, s11, t92] σ_23)
      (aJoin (fun j_1 =>
      Do (aBuiltin Go.Proofs.Try.prog .len #[22] [s8_1]) fun t103 =>
      Do (aBin Go.Proofs.Try.prog .lss 3 s11 t103) fun t104 =>
      Do (aGuard t104 true (aIs s8_1)) fun t106 =>
      Do (aGuard t104 true (aIs s11)) fun t107 =>
      Do (aGuard t104 true (aIndexAddr .slice 4 t106 t107)) fun t108 =>
      Do (aGuard t104 true (aFieldAddr 0 1 t108)) fun t109 =>
      Do (aGuard t104 true (loadA false 1 t109 σ_23)) fun t110 =>
      Do (aGuard t104 true (aFieldAddr 0 1 s3_2)) fun t111 =>
      Do (aGuard t104 true (loadA false 1 t111 σ_23)) fun t112 =>
      Do (aGuard t104 true (aBin Go.Proofs.Try.prog .eql 9 t110 t112)) fun t113 =>
      Do (aPick t104 t113 (.val (.bool false))) fun t114 =>
      aCond t114
        (Do (aBin Go.Proofs.Try.prog .add 3 s11 (.val (.int .i64 1))) fun t116 =>
        j_1 [s3_2, s5_2, s7_1, s8_1, t116, s12] σ_23)
        (j_1 [s3_2, s5_2, s7_1, s8_1, s11, s12] σ_23)) fun vs_3 σ_24 =>
    At vs_3 0 fun s3_3 => At vs_3 1 fun s5_3 => At vs_3 2 fun s7_2 => At vs_3 3 fun s8_2 => At vs_3 4 fun s11_1 => At vs_3 5 fun s12_1 => Do (aBuiltin Go.Proofs.Try.prog .len #[22] [s8_2]) fun t119 =>
    Do (aBin Go.Proofs.Try.prog .geq 3 s11_1 t119) fun t120 =>
    Do (aGuard t120 false (aIs s8_2)) fun t122 =>
    Do (aGuard t120 false (aIs s11_1)) fun t123 =>
    Do (aGuard t120 false (aIndexAddr .slice 4 t122 t123)) fun t124 =>
    Do (aGuard t120 false (loadA true 4 t124 σ_24)) fun t125 =>
    Do (aGuard t120 false (aIs s7_2)) fun t126 =>
    Do (aGuard t120 false (aIs s12_1)) fun t127 =>
    Do (aGuard t120 false (aIndexAddr .slice 4 t126 t127)) fun t128 =>
    Do (aGuard t120 false (loadA true 4 t128 σ_24)) fun t129 =>
    Do (aGuard t120 false (aBin Go.Proofs.Try.prog .neq 35 t125 t129)) fun t130 =>
    Do (aPick t120 (.val (.bool true)) t130) fun t131 =>
    aCond t131
      (Q (.ret (.val (.bool false))) σ_24)
      (Do (aBin Go.Proofs.Try.prog .add 3 s11_1 (.val (.int .i64 1))) fun t133 =>
    Do (aBin Go.Proofs.Try.prog .add 3 s12_1 (.val (.int .i64 1))) fun t92_1 =>
    go_1 [s3_3, s5_3, s7_2, s8_2, t133, t92_1] σ_24)))
      (Q (.ret s5_2) σ_23))
    [s3_1, s5_1, s7, s8, (.val (.int .i64 0)), (.val (.int .i64 0))] σ_8)) (fun e_3 σ_25 => Q (.pan e_3) σ_25)))
    [t15, t3, t13, (.val (.int .i64 0))] σ_3) (fun e_4 σ_26 => Q (.pan e_4) σ_26)
theorem law03_EntryMaps.eq (a0 a1 : AV) (σ : Store) (Q : AEnd → Store → Prop) : vc (semOf Go.Proofs.Try.prog law03_EntryMaps.mark) Go.Proofs.Try.f11.ntmps law03_EntryMaps.ann (bodyOf Go.Proofs.Try.f11) (endK [.tmp 4] Q) (argFr [a0, a1]) σ = law03_EntryMaps.sh a0 a1 σ Q := by kernel_rfl
theorem law03_EntryMaps.go {a0 a1 : AV} {σ : Store} {Q : AEnd → Store → Prop} (h : law03_EntryMaps.sh a0 a1 σ Q) : ACalls Go.Proofs.Try.prog 11 [a0, a1] σ Q :=
  acalls_of_eq [.tmp 4] Go.Proofs.Try.func11 (by kernel_rfl) (by kernel_rfl) (by kernel_rfl) (by kernel_rfl) (law03_EntryMaps.eq a0 a1 σ Q) h
/-- few, what it makes still its own. -/
theorem few3_own (l : List En) (m : SM) (k : Nat) (hl : l.length ≤ 100000000000000) (hk : k ≤ 1000) : ACalls Go.Proofs.Try.prog 32 [.lst 4 (l.map En.av) m, I .i64 (k : Nat)] [] fun x σ' => ∃ v, x = .ret (.own v ((l.take k).map (cutE 200 1100)).length) ∧ σ' = [.row v 35 4 (((l.take k).map (cutE 200 1100)).map En.av) 0] := by
  refine ACalls.fin (law03_few.go ?_)
  unfold law03_few.sh
  repeat' (first | with_reducible apply Stp.go | with_reducible refine imp fun _ => ?_ | (with_reducible refine hyp ?_ ?_; first | assumption | exact leftT_mem (by assumption)) | (with_reducible refine need ?_ ?_; first | trivial | omega | (simp only [List.length_append, List.length_cons, List.length_nil, List.length_map, List.length_take, List.length_drop, List.length_replicate]; omega)) | (with_reducible refine fact ?_ ?_; first | trivial | exact ⟨rfl, rfl⟩ | kernel_rfl) | with_reducible refine choT (by assumption) ?_ | with_reducible refine choF (by assumption) ?_ | with_reducible refine choF' (by assumption) ?_ | (with_reducible refine altT ?_ ?_; first | omega | (simp only [List.length_append, List.length_cons, List.length_nil, List.length_map, List.length_take, List.length_drop, List.length_replicate]; omega)) | with_reducible refine altF ?_ | with_reducible refine all fun _ => ?_ | with_reducible refine both ?_ ?_ | (with_reducible refine choT ?_ ?_; omega) | (with_reducible refine choF ?_ ?_; omega) | with_reducible refine cho (fun _ => ?_) (fun _ => ?_))
  refine loopI (β := Nat × Value) (fun x => x.1 ≤ l.length ∧ x.1 ≤ k) (fun x => [.lst 4 (l.map En.av) m, I .i64 (k : Nat), .own x.2 x.1, I .i64 (x.1 : Nat)]) (fun x => [.row x.2 35 4 (((l.take x.1).map (cutE 200 1100)).map En.av) 0]) (fun x => k - x.1) (0, _) ⟨Nat.zero_le _, Nat.zero_le _⟩ (Sub.nil_own 35 (by decide) _ [_, _] [_]) ?_
  rintro ⟨i, v⟩ ⟨h1, h2⟩
  dsimp only at h1 h2 ⊢
  have el : ((l.take k).map (cutE 200 1100)).length = min l.length k := by simp [Nat.min_comm]
  repeat' (first | with_reducible apply Stp.go | with_reducible refine imp fun _ => ?_ | (with_reducible refine hyp ?_ ?_; first | assumption | exact leftT_mem (by assumption)) | (with_reducible refine need ?_ ?_; first | trivial | omega | (simp only [List.length_append, List.length_cons, List.length_nil, List.length_map, List.length_take, List.length_drop, List.length_replicate]; omega)) | (with_reducible refine fact ?_ ?_; first | trivial | exact ⟨rfl, rfl⟩ | kernel_rfl) | with_reducible refine choT (by assumption) ?_ | with_reducible refine choF (by assumption) ?_ | with_reducible refine choF' (by assumption) ?_ | (with_reducible refine altT ?_ ?_; first | omega | (simp only [List.length_append, List.length_cons, List.length_nil, List.length_map, List.length_take, List.length_drop, List.length_replicate]; omega)) | with_reducible refine altF ?_ | with_reducible refine all fun _ => ?_ | with_reducible refine both ?_ ?_ | (with_reducible refine choT ?_ ?_; omega) | (with_reducible refine choF ?_ ?_; omega) | with_reducible refine cho (fun _ => ?_) (fun _ => ?_))
  · rename_i w
    refine again (i + 1, w) (by dsimp only; omega) ⟨by dsimp only; omega, by dsimp only; omega⟩ ?_
    have e : (l.take (i + 1)).map (cutE 200 1100) = (l.take i).map (cutE 200 1100) ++ [cutE 200 1100 (l.getD i default)] := by rw [take_succ_d (by omega), List.map_append]; rfl
    have en : ((l.take i).map (cutE 200 1100)).length = i := by simp; omega
    dsimp only
    rw [e, List.length_append, en]
    exact subS _
  all_goals
    have e : i = min l.length k := by omega
    refine ⟨_, _, _, rfl, Sub.refl _ _, v, ?_, ?_⟩
    · rw [el, e]
    · rw [e, take_minN]
instance few3E {a : AV} {l : List En} {m : SM} {k : Nat} {x : Int} {σ : Store} [h : IsL a En.av 4 l m] [hk : NatOf x k] : EC Go.Proofs.Try.prog 32 [a, .val (.int .i64 x)] σ (l.length ≤ 100000000000000 ∧ k ≤ 1000) Value (fun v => .own v ((l.take k).map (cutE 200 1100)).length) (fun v => .row v 35 4 (((l.take k).map (cutE 200 1100)).map En.av) 0 :: σ) := ⟨fun hl => by
  rw [hk.eq]
  exact (((few3_own l m k hl.1 hl.2).subV (args := [a, I .i64 (k : Nat)]) ⟨h.sub, SubVs.refl _⟩).frame σ).mono fun x τ ⟨σ1, e1, _, v, e2, e3⟩ => ⟨v, e2, by rw [e1, e3]; rfl⟩⟩
/-- entry.Map of a row that stays writable. -/
theorem Map_own (l : List En) (m : SM) (hl : l.length ≤ 1000000000) : ACalls Go.Proofs.Try.prog 35 [.lst 4 (l.map En.av) m] [] fun x τ => ∃ r, x = .ret r ∧ GroundS τ ∧ (∀ R R' v, VR R' v r → VR R v r) ∧ ∀ σ, Sub (τ ++ σ) [r] σ [.lst 4 ((mapE l).map En.av) .ro] := by
  refine entry_Map.go ?_
  unfold entry_Map.sh
  have hf := foldE_length l
  repeat' (first | with_reducible apply Stp.go | with_reducible refine imp fun _ => ?_ | (with_reducible refine hyp ?_ ?_; first | assumption | exact leftT_mem (by assumption)) | (with_reducible refine need ?_ ?_; first | trivial | omega | (simp only [List.length_append, List.length_cons, List.length_nil, List.length_map, List.length_take, List.length_drop, List.length_replicate]; omega)) | (with_reducible refine fact ?_ ?_; first | trivial | exact ⟨rfl, rfl⟩ | kernel_rfl) | with_reducible refine choT (by assumption) ?_ | with_reducible refine choF (by assumption) ?_ | with_reducible refine choF' (by assumption) ?_ | (with_reducible refine altT ?_ ?_; first | omega | (simp only [List.length_append, List.length_cons, List.length_nil, List.length_map, List.length_take, List.length_drop, List.length_replicate]; omega)) | with_reducible refine altF ?_ | with_reducible refine all fun _ => ?_ | with_reducible refine both ?_ ?_ | (with_reducible refine choT ?_ ?_; omega) | (with_reducible refine choF ?_ ?_; omega) | with_reducible refine cho (fun _ => ?_) (fun _ => ?_))
  rename_i v l' h
  have hk : ((foldE l).filter fun e => !e.del).length ≤ (foldE l).length := List.length_filter_le _ _
  refine ⟨_, rfl, inferInstance, fun R R' v => sub_indep, fun σ => ?_⟩
  have h1 := Sub.cons_sub (σ1 := []) (σ2 := σ) (v := v) (E := 35) (sz := 4) (fl := 0) (a := 0) (n := ((foldE l).filter fun e => !e.del).length) (l := l'.map En.av) (us := []) (us' := []) (by simpa [h.1] using hk) (Sub.refl _ _)
  rw [List.drop_zero, ← List.map_take, h.2] at h1
  exact h1
instance mapB {l : List En} {m : SM} : BC Go.Proofs.Try.prog 35 [.lst 4 (l.map En.av) m] (l.length ≤ 1000000000) (.lst 4 ((mapE l).map En.av) .ro) := ⟨fun hl => BC.of_own (Map_own l m hl)⟩
set_option maxHeartbeats 1000000 in
theorem EntryMaps_ok (l : List En) (m : SM) (e : En) (hl : l.length ≤ 100000000000000) (hk : e.key.length ≤ maxLen) (hv : e.val.length ≤ maxLen) : aPure Go.Proofs.Try.prog 11 [.lst 4 (l.map En.av) m, e.av] (B true) := by
  refine ACalls.fin (law03_EntryMaps.go ?_)
  unfold law03_EntryMaps.sh
  obtain ⟨L, hL⟩ : ∃ L, L = (l.take 60).map (cutE 200 1100) := ⟨_, rfl⟩
  have h60 : L.length ≤ 60 := by rw [hL]; simp; omega
  repeat' (first | with_reducible apply Stp.go | with_reducible refine imp fun _ => ?_ | (with_reducible refine hyp ?_ ?_; first | assumption | exact leftT_mem (by assumption)) | (with_reducible refine need ?_ ?_; first | trivial | omega | (simp only [List.length_append, List.length_cons, List.length_nil, List.length_map, List.length_take, List.length_drop, List.length_replicate]; omega)) | (with_reducible refine fact ?_ ?_; first | trivial | exact ⟨rfl, rfl⟩ | kernel_rfl) | with_reducible refine choT (by assumption) ?_ | with_reducible refine choF (by assumption) ?_ | with_reducible refine choF' (by assumption) ?_ | (with_reducible refine altT ?_ ?_; first | omega | (simp only [List.length_append, List.length_cons, List.length_nil, List.length_map, List.length_take, List.length_drop, List.length_replicate]; omega)) | with_reducible refine altF ?_ | with_reducible refine all fun _ => ?_ | with_reducible refine both ?_ ?_ | (with_reducible refine choT ?_ ?_; omega) | (with_reducible refine choF ?_ ?_; omega) | with_reducible refine cho (fun _ => ?_) (fun _ => ?_))
  rw [← hL] at *
  rename_i b v
  refine loopI (β := Nat × List En × Int) (fun x => x.1 ≤ L.length ∧ x.2.1.length = L.length ∧ 1 ≤ x.2.2 ∧ x.2.2 ≤ 65536 ∧ ∀ j, j < x.1 → (x.2.1.getD j default).seq ≤ x.2.2) (fun x => [.own v L.length, ptrAt b 0, B true, I .i64 (x.1 : Nat)])
    (fun x => [.row v 35 4 (x.2.1.map En.av) 0, .var b 35 (En.cs ⟨(cutE 200 1100 e).key, (cutE 200 1100 e).val, (cutE 200 1100 e).del, x.2.2⟩)]) (fun x => L.length - x.1) (0, L, 1) ⟨Nat.zero_le _, rfl, Int.le_refl 1, by dsimp only; omega, fun j hj => absurd hj (Nat.not_lt_zero j)⟩ (Sub.refl _ _) ?_
  rintro ⟨i, G, q⟩ ⟨hi, hG, hq1, hq2, hj⟩
  dsimp only at hi hG hq1 hq2 hj ⊢
  by_cases hlt : i < L.length
  · obtain ⟨y, hy⟩ : ∃ y : En, y = ⟨(G.getD i default).key, (G.getD i default).val, (G.getD i default).del, (((G.getD i default).seq % 65536).toNat : Nat)⟩ := ⟨_, rfl⟩
    have hys : y.seq = (((G.getD i default).seq % 65536).toNat : Nat) := by rw [hy]
    have hyb : 0 ≤ y.seq ∧ y.seq ≤ 65535 := by rw [hys]; omega
    have hget : (G.set i y).getD i default = y := by rw [List.getD_eq_getElem?_getD, List.getElem?_set_self (by omega)]; rfl
    repeat' (first | with_reducible apply Stp.go | with_reducible refine imp fun _ => ?_ | (with_reducible refine hyp ?_ ?_; first | assumption | exact leftT_mem (by assumption)) | (with_reducible refine need ?_ ?_; first | trivial | omega | (simp only [List.length_append, List.length_cons, List.length_nil, List.length_map, List.length_take, List.length_drop, List.length_replicate]; omega)) | (with_reducible refine fact ?_ ?_; first | trivial | exact ⟨rfl, rfl⟩ | kernel_rfl) | with_reducible refine choT (by assumption) ?_ | with_reducible refine choF (by assumption) ?_ | with_reducible refine choF' (by assumption) ?_ | (with_reducible refine altT ?_ ?_; first | omega | (simp only [List.length_append, List.length_cons, List.length_nil, List.length_map, List.length_take, List.length_drop, List.length_replicate]; omega)) | with_reducible refine altF ?_ | with_reducible refine all fun _ => ?_ | with_reducible refine both ?_ ?_ | (with_reducible refine choT ?_ ?_; omega) | (with_reducible refine choF ?_ ?_; omega) | with_reducible refine cho (fun _ => ?_) (fun _ => ?_))
    rw [← hy]
    refine need (by rw [List.length_set]; omega) ?_
    rw [hget]
    repeat' (first | with_reducible apply Stp.go | with_reducible refine imp fun _ => ?_ | (with_reducible refine hyp ?_ ?_; first | assumption | exact leftT_mem (by assumption)) | (with_reducible refine need ?_ ?_; first | trivial | omega | (simp only [List.length_append, List.length_cons, List.length_nil, List.length_map, List.length_take, List.length_drop, List.length_replicate]; omega)) | (with_reducible refine fact ?_ ?_; first | trivial | exact ⟨rfl, rfl⟩ | kernel_rfl) | with_reducible refine choT (by assumption) ?_ | with_reducible refine choF (by assumption) ?_ | with_reducible refine choF' (by assumption) ?_ | (with_reducible refine altT ?_ ?_; first | omega | (simp only [List.length_append, List.length_cons, List.length_nil, List.length_map, List.length_take, List.length_drop, List.length_replicate]; omega)) | with_reducible refine altF ?_ | with_reducible refine all fun _ => ?_ | with_reducible refine both ?_ ?_ | (with_reducible refine choT ?_ ?_; omega) | (with_reducible refine choF ?_ ?_; omega) | with_reducible refine cho (fun _ => ?_) (fun _ => ?_))
    refine again (i + 1, G.set i y, max q (y.seq + 1)) (by dsimp only; omega) ⟨by dsimp only; omega, by dsimp only; rw [List.length_set]; exact hG, by dsimp only; omega, by dsimp only; omega, ?_⟩ (subS _)
    intro j hji
    dsimp only at hji ⊢
    by_cases e1 : j = i
    · rw [e1, hget]; omega
    · have e2 : (G.set i y).getD j default = G.getD j default := by rw [List.getD_eq_getElem?_getD, List.getD_eq_getElem?_getD, List.getElem?_set_ne (by omega)]
      rw [e2]
      have := hj j (by omega)
      omega
  · obtain ⟨z, hz⟩ : ∃ z : En, z = ⟨(cutE 200 1100 e).key, (cutE 200 1100 e).val, (cutE 200 1100 e).del, q⟩ := ⟨_, rfl⟩
    rw [← hz]
    have hle : ∀ x ∈ G, x.seq ≤ z.seq := by
      intro x hx
      obtain ⟨j, hj1, rfl⟩ := List.mem_iff_getElem.1 hx
      have := hj j (by omega)
      rw [List.getD_eq_getElem?_getD, List.getElem?_eq_getElem hj1] at this
      rw [hz]
      exact this
    have m1 := more_rest hle
    have m2 := more_has hle
    have m3 := more_at hle
    have m4 := mapE_rises (G ++ [z])
    have l1 : (mapE G).length ≤ 60 := Nat.le_trans (List.length_filter_le _ _) (Nat.le_trans (foldE_length G) (by omega))
    have l2 : (mapE (G ++ [z])).length ≤ 61 := Nat.le_trans (List.length_filter_le _ _) (Nat.le_trans (foldE_length (G ++ [z])) (by rw [List.length_append]; simp; omega))
    have q1 := placeN_le (mapE (G ++ [z])) z.key
    repeat' (first | with_reducible apply Stp.go | with_reducible refine imp fun _ => ?_ | (with_reducible refine hyp ?_ ?_; first | assumption | exact leftT_mem (by assumption)) | (with_reducible refine need ?_ ?_; first | trivial | omega | (simp only [List.length_append, List.length_cons, List.length_nil, List.length_map, List.length_take, List.length_drop, List.length_replicate]; omega)) | (with_reducible refine fact ?_ ?_; first | trivial | exact ⟨rfl, rfl⟩ | kernel_rfl) | with_reducible refine choT (by assumption) ?_ | with_reducible refine choF (by assumption) ?_ | with_reducible refine choF' (by assumption) ?_ | (with_reducible refine altT ?_ ?_; first | omega | (simp only [List.length_append, List.length_cons, List.length_nil, List.length_map, List.length_take, List.length_drop, List.length_replicate]; omega)) | with_reducible refine altF ?_ | with_reducible refine all fun _ => ?_ | with_reducible refine both ?_ ?_ | (with_reducible refine choT ?_ ?_; omega) | (with_reducible refine choF ?_ ?_; omega) | with_reducible refine cho (fun _ => ?_) (fun _ => ?_))
    refine joinI (β := Unit) (fun _ => True) (fun _ => [ptrAt b 0, B true, .lst 4 ((mapE G).map En.av) .ro, .lst 4 ((mapE (G ++ [z])).map En.av) .ro]) (fun _ => [.var b 35 z.cs]) ?_ ?_
    · repeat' (first | with_reducible apply Stp.go | with_reducible refine imp fun _ => ?_ | (with_reducible refine hyp ?_ ?_; first | assumption | exact leftT_mem (by assumption)) | (with_reducible refine need ?_ ?_; first | trivial | omega | (simp only [List.length_append, List.length_cons, List.length_nil, List.length_map, List.length_take, List.length_drop, List.length_replicate]; omega)) | (with_reducible refine fact ?_ ?_; first | trivial | exact ⟨rfl, rfl⟩ | kernel_rfl) | with_reducible refine choT (by assumption) ?_ | with_reducible refine choF (by assumption) ?_ | with_reducible refine choF' (by assumption) ?_ | (with_reducible refine altT ?_ ?_; first | omega | (simp only [List.length_append, List.length_cons, List.length_nil, List.length_map, List.length_take, List.length_drop, List.length_replicate]; omega)) | with_reducible refine altF ?_ | with_reducible refine all fun _ => ?_ | with_reducible refine both ?_ ?_ | (with_reducible refine choT ?_ ?_; omega) | (with_reducible refine choF ?_ ?_; omega) | with_reducible refine cho (fun _ => ?_) (fun _ => ?_))
      all_goals
        rw [List.nil_append]
        exact meet () trivial (subS _)
    · intro _ _
      have m5 : sorted (mapE (G ++ [z])) = true := (sorted_iff _).2 m4
      clear hz
      generalize mapE (G ++ [z]) = N at *
      generalize mapE G = W at *
      cases hd : z.del with
      | true =>
        rw [hd] at m2
        have m2 : hasK N z.key = false := m2
        repeat' (first | with_reducible apply Stp.go | with_reducible refine imp fun _ => ?_ | (with_reducible refine hyp ?_ ?_; first | assumption | exact leftT_mem (by assumption)) | (with_reducible refine need ?_ ?_; first | trivial | omega | (simp only [List.length_append, List.length_cons, List.length_nil, List.length_map, List.length_take, List.length_drop, List.length_replicate]; omega)) | (with_reducible refine fact ?_ ?_; first | trivial | exact ⟨rfl, rfl⟩ | kernel_rfl) | with_reducible refine choT (by assumption) ?_ | with_reducible refine choF (by assumption) ?_ | with_reducible refine choF' (by assumption) ?_ | (with_reducible refine altT ?_ ?_; first | omega | (simp only [List.length_append, List.length_cons, List.length_nil, List.length_map, List.length_take, List.length_drop, List.length_replicate]; omega)) | with_reducible refine altF ?_ | with_reducible refine all fun _ => ?_ | with_reducible refine both ?_ ?_ | (with_reducible refine choT ?_ ?_; omega) | (with_reducible refine choF ?_ ?_; omega) | with_reducible refine cho (fun _ => ?_) (fun _ => ?_))
        · rename_i h
          rw [m2, hd] at h
          cases h
        · refine loopI (β := Nat × Nat) (fun x => x.1 ≤ N.length ∧ x.2 ≤ W.length ∧ (N.drop x.1).filter (fun x => decide (¬ x.key = z.key)) = (W.drop x.2).filter (fun x => decide (¬ x.key = z.key))) (fun x => [ptrAt b 0, B true, .lst 4 (W.map En.av) .ro, .lst 4 (N.map En.av) .ro, I .i64 (x.1 : Nat), I .i64 (x.2 : Nat)]) (fun _ => [.var b 35 z.cs]) (fun x => W.length - x.2) (0, 0) ⟨Nat.zero_le _, Nat.zero_le _, m1⟩ (Sub.refl _ _) ?_
          rintro ⟨a, k⟩ ⟨ga, gk, gJ⟩
          dsimp only at ga gk gJ ⊢
          by_cases glt : k < W.length
          · by_cases gx : (W.getD k default).key = z.key
            · have gJ' : (W.drop k).filter (fun x => decide (¬ x.key = z.key)) = (W.drop (k + 1)).filter (fun x => decide (¬ x.key = z.key)) := by rw [drop_cons_d glt, List.filter_cons_of_neg (by simpa using gx)]
              rw [gJ'] at gJ
              repeat' (first | with_reducible apply Stp.go | with_reducible refine imp fun _ => ?_ | (with_reducible refine hyp ?_ ?_; first | assumption | exact leftT_mem (by assumption)) | (with_reducible refine need ?_ ?_; first | trivial | omega | (simp only [List.length_append, List.length_cons, List.length_nil, List.length_map, List.length_take, List.length_drop, List.length_replicate]; omega)) | (with_reducible refine fact ?_ ?_; first | trivial | exact ⟨rfl, rfl⟩ | kernel_rfl) | with_reducible refine choT (by assumption) ?_ | with_reducible refine choF (by assumption) ?_ | with_reducible refine choF' (by assumption) ?_ | (with_reducible refine altT ?_ ?_; first | omega | (simp only [List.length_append, List.length_cons, List.length_nil, List.length_map, List.length_take, List.length_drop, List.length_replicate]; omega)) | with_reducible refine altF ?_ | with_reducible refine all fun _ => ?_ | with_reducible refine both ?_ ?_ | (with_reducible refine choT ?_ ?_; omega) | (with_reducible refine choF ?_ ?_; omega) | with_reducible refine cho (fun _ => ?_) (fun _ => ?_))
              exact again (a, k + 1) (by dsimp only; omega) ⟨ga, by dsimp only; omega, gJ⟩ (Sub.refl _ _)
            · obtain ⟨g1, g2, g3⟩ := skip_key m4 glt gx gJ
              repeat' (first | with_reducible apply Stp.go | with_reducible refine imp fun _ => ?_ | (with_reducible refine hyp ?_ ?_; first | assumption | exact leftT_mem (by assumption)) | (with_reducible refine need ?_ ?_; first | trivial | omega | (simp only [List.length_append, List.length_cons, List.length_nil, List.length_map, List.length_take, List.length_drop, List.length_replicate]; omega)) | (with_reducible refine fact ?_ ?_; first | trivial | exact ⟨rfl, rfl⟩ | kernel_rfl) | with_reducible refine choT (by assumption) ?_ | with_reducible refine choF (by assumption) ?_ | with_reducible refine choF' (by assumption) ?_ | (with_reducible refine altT ?_ ?_; first | omega | (simp only [List.length_append, List.length_cons, List.length_nil, List.length_map, List.length_take, List.length_drop, List.length_replicate]; omega)) | with_reducible refine altF ?_ | with_reducible refine all fun _ => ?_ | with_reducible refine both ?_ ?_ | (with_reducible refine choT ?_ ?_; omega) | (with_reducible refine choF ?_ ?_; omega) | with_reducible refine cho (fun _ => ?_) (fun _ => ?_))
              refine joinI (β := Nat) (fun y => y < N.length ∧ N.getD y default = W.getD k default ∧ (N.drop (y + 1)).filter (fun x => decide (¬ x.key = z.key)) = (W.drop (k + 1)).filter (fun x => decide (¬ x.key = z.key))) (fun y => [ptrAt b 0, B true, .lst 4 (W.map En.av) .ro, .lst 4 (N.map En.av) .ro, I .i64 (y : Nat), I .i64 (k : Nat)]) (fun _ => [.var b 35 z.cs]) ?_ ?_
              · by_cases gy : (N.getD a default).key = z.key
                · have g4 := g2 gy
                  repeat' (first | with_reducible apply Stp.go | with_reducible refine imp fun _ => ?_ | (with_reducible refine hyp ?_ ?_; first | assumption | exact leftT_mem (by assumption)) | (with_reducible refine need ?_ ?_; first | trivial | omega | (simp only [List.length_append, List.length_cons, List.length_nil, List.length_map, List.length_take, List.length_drop, List.length_replicate]; omega)) | (with_reducible refine fact ?_ ?_; first | trivial | exact ⟨rfl, rfl⟩ | kernel_rfl) | with_reducible refine choT (by assumption) ?_ | with_reducible refine choF (by assumption) ?_ | with_reducible refine choF' (by assumption) ?_ | (with_reducible refine altT ?_ ?_; first | omega | (simp only [List.length_append, List.length_cons, List.length_nil, List.length_map, List.length_take, List.length_drop, List.length_replicate]; omega)) | with_reducible refine altF ?_ | with_reducible refine all fun _ => ?_ | with_reducible refine both ?_ ?_ | (with_reducible refine choT ?_ ?_; omega) | (with_reducible refine choF ?_ ?_; omega) | with_reducible refine cho (fun _ => ?_) (fun _ => ?_))
                  exact meet (a + 1) g4 (Sub.refl _ _)
                · have g4 := g3 gy
                  repeat' (first | with_reducible apply Stp.go | with_reducible refine imp fun _ => ?_ | (with_reducible refine hyp ?_ ?_; first | assumption | exact leftT_mem (by assumption)) | (with_reducible refine need ?_ ?_; first | trivial | omega | (simp only [List.length_append, List.length_cons, List.length_nil, List.length_map, List.length_take, List.length_drop, List.length_replicate]; omega)) | (with_reducible refine fact ?_ ?_; first | trivial | exact ⟨rfl, rfl⟩ | kernel_rfl) | with_reducible refine choT (by assumption) ?_ | with_reducible refine choF (by assumption) ?_ | with_reducible refine choF' (by assumption) ?_ | (with_reducible refine altT ?_ ?_; first | omega | (simp only [List.length_append, List.length_cons, List.length_nil, List.length_map, List.length_take, List.length_drop, List.length_replicate]; omega)) | with_reducible refine altF ?_ | with_reducible refine all fun _ => ?_ | with_reducible refine both ?_ ?_ | (with_reducible refine choT ?_ ?_; omega) | (with_reducible refine choF ?_ ?_; omega) | with_reducible refine cho (fun _ => ?_) (fun _ => ?_))
                  exact meet a ⟨g1, g4⟩ (Sub.refl _ _)
              · rintro y ⟨y1, y2, y3⟩
                repeat' (first | with_reducible apply Stp.go | with_reducible refine imp fun _ => ?_ | (with_reducible refine hyp ?_ ?_; first | assumption | exact leftT_mem (by assumption)) | (with_reducible refine need ?_ ?_; first | trivial | omega | (simp only [List.length_append, List.length_cons, List.length_nil, List.length_map, List.length_take, List.length_drop, List.length_replicate]; omega)) | (with_reducible refine fact ?_ ?_; first | trivial | exact ⟨rfl, rfl⟩ | kernel_rfl) | with_reducible refine choT (by assumption) ?_ | with_reducible refine choF (by assumption) ?_ | with_reducible refine choF' (by assumption) ?_ | (with_reducible refine altT ?_ ?_; first | omega | (simp only [List.length_append, List.length_cons, List.length_nil, List.length_map, List.length_take, List.length_drop, List.length_replicate]; omega)) | with_reducible refine altF ?_ | with_reducible refine all fun _ => ?_ | with_reducible refine both ?_ ?_ | (with_reducible refine choT ?_ ?_; omega) | (with_reducible refine choF ?_ ?_; omega) | with_reducible refine cho (fun _ => ?_) (fun _ => ?_))
                all_goals
                  first
                  | exact again (y + 1, k + 1) (by dsimp only; omega) ⟨by dsimp only; omega, by dsimp only; omega, y3⟩ (Sub.refl _ _)
                  | (exfalso; rename_i h; exact h y2)
          · repeat' (first | with_reducible apply Stp.go | with_reducible refine imp fun _ => ?_ | (with_reducible refine hyp ?_ ?_; first | assumption | exact leftT_mem (by assumption)) | (with_reducible refine need ?_ ?_; first | trivial | omega | (simp only [List.length_append, List.length_cons, List.length_nil, List.length_map, List.length_take, List.length_drop, List.length_replicate]; omega)) | (with_reducible refine fact ?_ ?_; first | trivial | exact ⟨rfl, rfl⟩ | kernel_rfl) | with_reducible refine choT (by assumption) ?_ | with_reducible refine choF (by assumption) ?_ | with_reducible refine choF' (by assumption) ?_ | (with_reducible refine altT ?_ ?_; first | omega | (simp only [List.length_append, List.length_cons, List.length_nil, List.length_map, List.length_take, List.length_drop, List.length_replicate]; omega)) | with_reducible refine altF ?_ | with_reducible refine all fun _ => ?_ | with_reducible refine both ?_ ?_ | (with_reducible refine choT ?_ ?_; omega) | (with_reducible refine choF ?_ ?_; omega) | with_reducible refine cho (fun _ => ?_) (fun _ => ?_))
            exact ⟨_, _, _, rfl, Sub.app_nil _, rfl, rfl⟩
      | false =>
        rw [hd] at m2
        have m2 : hasK N z.key = true := m2
        obtain ⟨n1, n2⟩ := m3 hd
        repeat' (first | with_reducible apply Stp.go | with_reducible refine imp fun _ => ?_ | (with_reducible refine hyp ?_ ?_; first | assumption | exact leftT_mem (by assumption)) | (with_reducible refine need ?_ ?_; first | trivial | omega | (simp only [List.length_append, List.length_cons, List.length_nil, List.length_map, List.length_take, List.length_drop, List.length_replicate]; omega)) | (with_reducible refine fact ?_ ?_; first | trivial | exact ⟨rfl, rfl⟩ | kernel_rfl) | with_reducible refine choT (by assumption) ?_ | with_reducible refine choF (by assumption) ?_ | with_reducible refine choF' (by assumption) ?_ | (with_reducible refine altT ?_ ?_; first | omega | (simp only [List.length_append, List.length_cons, List.length_nil, List.length_map, List.length_take, List.length_drop, List.length_replicate]; omega)) | with_reducible refine altF ?_ | with_reducible refine all fun _ => ?_ | with_reducible refine both ?_ ?_ | (with_reducible refine choT ?_ ?_; omega) | (with_reducible refine choF ?_ ?_; omega) | with_reducible refine cho (fun _ => ?_) (fun _ => ?_))
        · rename_i h
          rw [m2, hd] at h
          cases h
        · refine loopI (β := Nat × Nat) (fun x => x.1 ≤ N.length ∧ x.2 ≤ W.length ∧ (N.drop x.1).filter (fun x => decide (¬ x.key = z.key)) = (W.drop x.2).filter (fun x => decide (¬ x.key = z.key))) (fun x => [ptrAt b 0, B true, .lst 4 (W.map En.av) .ro, .lst 4 (N.map En.av) .ro, I .i64 (x.1 : Nat), I .i64 (x.2 : Nat)]) (fun _ => [.var b 35 z.cs]) (fun x => W.length - x.2) (0, 0) ⟨Nat.zero_le _, Nat.zero_le _, m1⟩ (Sub.refl _ _) ?_
          rintro ⟨a, k⟩ ⟨ga, gk, gJ⟩
          dsimp only at ga gk gJ ⊢
          by_cases glt : k < W.length
          · by_cases gx : (W.getD k default).key = z.key
            · have gJ' : (W.drop k).filter (fun x => decide (¬ x.key = z.key)) = (W.drop (k + 1)).filter (fun x => decide (¬ x.key = z.key)) := by rw [drop_cons_d glt, List.filter_cons_of_neg (by simpa using gx)]
              rw [gJ'] at gJ
              repeat' (first | with_reducible apply Stp.go | with_reducible refine imp fun _ => ?_ | (with_reducible refine hyp ?_ ?_; first | assumption | exact leftT_mem (by assumption)) | (with_reducible refine need ?_ ?_; first | trivial | omega | (simp only [List.length_append, List.length_cons, List.length_nil, List.length_map, List.length_take, List.length_drop, List.length_replicate]; omega)) | (with_reducible refine fact ?_ ?_; first | trivial | exact ⟨rfl, rfl⟩ | kernel_rfl) | with_reducible refine choT (by assumption) ?_ | with_reducible refine choF (by assumption) ?_ | with_reducible refine choF' (by assumption) ?_ | (with_reducible refine altT ?_ ?_; first | omega | (simp only [List.length_append, List.length_cons, List.length_nil, List.length_map, List.length_take, List.length_drop, List.length_replicate]; omega)) | with_reducible refine altF ?_ | with_reducible refine all fun _ => ?_ | with_reducible refine both ?_ ?_ | (with_reducible refine choT ?_ ?_; omega) | (with_reducible refine choF ?_ ?_; omega) | with_reducible refine cho (fun _ => ?_) (fun _ => ?_))
              exact again (a, k + 1) (by dsimp only; omega) ⟨ga, by dsimp only; omega, gJ⟩ (Sub.refl _ _)
            · obtain ⟨g1, g2, g3⟩ := skip_key m4 glt gx gJ
              repeat' (first | with_reducible apply Stp.go | with_reducible refine imp fun _ => ?_ | (with_reducible refine hyp ?_ ?_; first | assumption | exact leftT_mem (by assumption)) | (with_reducible refine need ?_ ?_; first | trivial | omega | (simp only [List.length_append, List.length_cons, List.length_nil, List.length_map, List.length_take, List.length_drop, List.length_replicate]; omega)) | (with_reducible refine fact ?_ ?_; first | trivial | exact ⟨rfl, rfl⟩ | kernel_rfl) | with_reducible refine choT (by assumption) ?_ | with_reducible refine choF (by assumption) ?_ | with_reducible refine choF' (by assumption) ?_ | (with_reducible refine altT ?_ ?_; first | omega | (simp only [List.length_append, List.length_cons, List.length_nil, List.length_map, List.length_take, List.length_drop, List.length_replicate]; omega)) | with_reducible refine altF ?_ | with_reducible refine all fun _ => ?_ | with_reducible refine both ?_ ?_ | (with_reducible refine choT ?_ ?_; omega) | (with_reducible refine choF ?_ ?_; omega) | with_reducible refine cho (fun _ => ?_) (fun _ => ?_))
              refine joinI (β := Nat) (fun y => y < N.length ∧ N.getD y default = W.getD k default ∧ (N.drop (y + 1)).filter (fun x => decide (¬ x.key = z.key)) = (W.drop (k + 1)).filter (fun x => decide (¬ x.key = z.key))) (fun y => [ptrAt b 0, B true, .lst 4 (W.map En.av) .ro, .lst 4 (N.map En.av) .ro, I .i64 (y : Nat), I .i64 (k : Nat)]) (fun _ => [.var b 35 z.cs]) ?_ ?_
              · by_cases gy : (N.getD a default).key = z.key
                · have g4 := g2 gy
                  repeat' (first | with_reducible apply Stp.go | with_reducible refine imp fun _ => ?_ | (with_reducible refine hyp ?_ ?_; first | assumption | exact leftT_mem (by assumption)) | (with_reducible refine need ?_ ?_; first | trivial | omega | (simp only [List.length_append, List.length_cons, List.length_nil, List.length_map, List.length_take, List.length_drop, List.length_replicate]; omega)) | (with_reducible refine fact ?_ ?_; first | trivial | exact ⟨rfl, rfl⟩ | kernel_rfl) | with_reducible refine choT (by assumption) ?_ | with_reducible refine choF (by assumption) ?_ | with_reducible refine choF' (by assumption) ?_ | (with_reducible refine altT ?_ ?_; first | omega | (simp only [List.length_append, List.length_cons, List.length_nil, List.length_map, List.length_take, List.length_drop, List.length_replicate]; omega)) | with_reducible refine altF ?_ | with_reducible refine all fun _ => ?_ | with_reducible refine both ?_ ?_ | (with_reducible refine choT ?_ ?_; omega) | (with_reducible refine choF ?_ ?_; omega) | with_reducible refine cho (fun _ => ?_) (fun _ => ?_))
                  exact meet (a + 1) g4 (Sub.refl _ _)
                · have g4 := g3 gy
                  repeat' (first | with_reducible apply Stp.go | with_reducible refine imp fun _ => ?_ | (with_reducible refine hyp ?_ ?_; first | assumption | exact leftT_mem (by assumption)) | (with_reducible refine need ?_ ?_; first | trivial | omega | (simp only [List.length_append, List.length_cons, List.length_nil, List.length_map, List.length_take, List.length_drop, List.length_replicate]; omega)) | (with_reducible refine fact ?_ ?_; first | trivial | exact ⟨rfl, rfl⟩ | kernel_rfl) | with_reducible refine choT (by assumption) ?_ | with_reducible refine choF (by assumption) ?_ | with_reducible refine choF' (by assumption) ?_ | (with_reducible refine altT ?_ ?_; first | omega | (simp only [List.length_append, List.length_cons, List.length_nil, List.length_map, List.length_take, List.length_drop, List.length_replicate]; omega)) | with_reducible refine altF ?_ | with_reducible refine all fun _ => ?_ | with_reducible refine both ?_ ?_ | (with_reducible refine choT ?_ ?_; omega) | (with_reducible refine choF ?_ ?_; omega) | with_reducible refine cho (fun _ => ?_) (fun _ => ?_))
                  exact meet a ⟨g1, g4⟩ (Sub.refl _ _)
              · rintro y ⟨y1, y2, y3⟩
                repeat' (first | with_reducible apply Stp.go | with_reducible refine imp fun _ => ?_ | (with_reducible refine hyp ?_ ?_; first | assumption | exact leftT_mem (by assumption)) | (with_reducible refine need ?_ ?_; first | trivial | omega | (simp only [List.length_append, List.length_cons, List.length_nil, List.length_map, List.length_take, List.length_drop, List.length_replicate]; omega)) | (with_reducible refine fact ?_ ?_; first | trivial | exact ⟨rfl, rfl⟩ | kernel_rfl) | with_reducible refine choT (by assumption) ?_ | with_reducible refine choF (by assumption) ?_ | with_reducible refine choF' (by assumption) ?_ | (with_reducible refine altT ?_ ?_; first | omega | (simp only [List.length_append, List.length_cons, List.length_nil, List.length_map, List.length_take, List.length_drop, List.length_replicate]; omega)) | with_reducible refine altF ?_ | with_reducible refine all fun _ => ?_ | with_reducible refine both ?_ ?_ | (with_reducible refine choT ?_ ?_; omega) | (with_reducible refine choF ?_ ?_; omega) | with_reducible refine cho (fun _ => ?_) (fun _ => ?_))
                all_goals
                  first
                  | exact again (y + 1, k + 1) (by dsimp only; omega) ⟨by dsimp only; omega, by dsimp only; omega, y3⟩ (Sub.refl _ _)
                  | (exfalso; rename_i h; exact h y2)
          · repeat' (first | with_reducible apply Stp.go | with_reducible refine imp fun _ => ?_ | (with_reducible refine hyp ?_ ?_; first | assumption | exact leftT_mem (by assumption)) | (with_reducible refine need ?_ ?_; first | trivial | omega | (simp only [List.length_append, List.length_cons, List.length_nil, List.length_map, List.length_take, List.length_drop, List.length_replicate]; omega)) | (with_reducible refine fact ?_ ?_; first | trivial | exact ⟨rfl, rfl⟩ | kernel_rfl) | with_reducible refine choT (by assumption) ?_ | with_reducible refine choF (by assumption) ?_ | with_reducible refine choF' (by assumption) ?_ | (with_reducible refine altT ?_ ?_; first | omega | (simp only [List.length_append, List.length_cons, List.length_nil, List.length_map, List.length_take, List.length_drop, List.length_replicate]; omega)) | with_reducible refine altF ?_ | with_reducible refine all fun _ => ?_ | with_reducible refine both ?_ ?_ | (with_reducible refine choT ?_ ?_; omega) | (with_reducible refine choF ?_ ?_; omega) | with_reducible refine cho (fun _ => ?_) (fun _ => ?_))
            exact ⟨_, _, _, rfl, Sub.app_nil _, rfl, rfl⟩
end Go.Ab
