/- The laws BlockBack and BlockNext: what their functions do. -/
import Derived.Test.YtopmpooglnfalaaF25
import Derived.Test.YtopmpooglnfalaaF17
import Derived.Test.YtopmpooglnfalaaSp13
set_option linter.unusedVariables false
set_option linter.unusedSimpArgs false
namespace Go.Ab
def law04_BlockBack.mark : Mark := ⟨fun t => Nat.beq t 19 || Nat.beq t 21 || Nat.beq t 28 || Nat.beq t 33 || Nat.beq t 38 || Nat.beq t 67 || Nat.beq t 79, fun t => false, fun t => false, fun t => Nat.beq t 66 || Nat.beq t 77 || Nat.beq t 97 || Nat.beq t 122, fun t => false⟩
def law04_BlockBack.ann : Ann := ⟨fun n => [], fun n => bif Nat.beq n 13 then some [0, 5, 6, 11] else none, fun n => none⟩
/-- 'marlstone/marlstonelaw04.BlockBack' -/
def law04_BlockBack.sh (a0 a1 : AV) (σ : Store) (Q : AEnd → Store → Prop) : Prop :=
  Do (aPureC Go.Proofs.Try.prog 18 []) fun t19 =>
  Do (aPureC Go.Proofs.Try.prog 44 [a0]) fun t21 =>
  Do (aBuiltin Go.Proofs.Try.prog .len #[22] [t21]) fun t23 =>
  Do (aBin Go.Proofs.Try.prog .eql 3 t23 (.val (.int .i64 0))) fun t24 =>
  aCond t24
    (Q (.ret t19) σ)
    (Do (aPureC Go.Proofs.Try.prog 20 [t21]) fun t28 =>
  Do (aExt t28 0) fun t29 =>
  Do (aExt t28 1) fun t30 =>
  Do (aPureC Go.Proofs.Try.prog 25 [t29]) fun t33 =>
  Do (aExt t33 0) fun t34 =>
  Do (aExt t33 1) fun t35 =>
  Do (aPureC Go.Proofs.Try.prog 22 [t34, t21]) fun t38 =>
  Do (aBin Go.Proofs.Try.prog .neq 26 t30 (.val (.int .i64 0))) fun t40 =>
  Do (aGuard t40 false (aIs t35)) fun t42 =>
  Do (aGuard t40 false (aBin Go.Proofs.Try.prog .neq 26 t42 (.val (.int .i64 0)))) fun t43 =>
  Do (aPick t40 (.val (.bool true)) t43) fun t44 =>
  Do (aGuard t44 false (aIs t38)) fun t46 =>
  Do (aGuard t44 false (aUn Go.Proofs.Try.prog .not t46)) fun t47 =>
  Do (aPick t44 (.val (.bool true)) t47) fun t48 =>
  Do (aGuard t48 false (aIs t29)) fun t50 =>
  Do (aGuard t48 false (aBuiltin Go.Proofs.Try.prog .len #[25] [t50])) fun t51 =>
  Do (aGuard t48 false (aBin Go.Proofs.Try.prog .lss 3 t51 (.val (.int .i64 8)))) fun t52 =>
  Do (aPick t48 (.val (.bool true)) t52) fun t53 =>
  aCond t53
    (Q (.ret (.val (.bool false))) σ)
    (aJoin (fun j =>
    Do (aBin Go.Proofs.Try.prog .gtr 3 a1 (.val (.int .i64 0))) fun t55 =>
    aCond t55
      (Do (aBuiltin Go.Proofs.Try.prog .len #[22] [t21]) fun t58 =>
      Do (aBin Go.Proofs.Try.prog .rem 3 a1 t58) fun t59 =>
      j [t21, t19, t29, t59] σ)
      (j [t21, t19, t29, (.val (.int .i64 0))] σ)) fun vs σ =>
  At vs 0 fun s0 => At vs 1 fun s5 => At vs 2 fun s6 => At vs 3 fun s11 => Do (aIndexAddr .slice 4 s0 s11) fun t64 =>
  Do (aFieldAddr 0 1 t64) fun t65 =>
  Do (loadF false 1 t65) fun t66 =>
  Do (aPureC Go.Proofs.Try.prog 27 [s6, t66]) fun t67 =>
  Do (aExt t67 0) fun t68 =>
  Do (aExt t67 1) fun t69 =>
  Do (aExt t67 2) fun t70 =>
  aNewVar 35 [.val (.string ⟨#[]⟩), .val (.string ⟨#[]⟩), .val (.bool false), .val (.int .i64 0)] σ fun t12 σ_1 =>
  storeA 4 t12 t68 σ_1 fun u σ_2 =>
  Do (aIndexAddr .slice 4 s0 s11) fun t75 =>
  Do (aFieldAddr 0 1 t75) fun t76 =>
  Do (loadF false 1 t76) fun t77 =>
  Do (aBin Go.Proofs.Try.prog .add 9 t77 (.val (.string ⟨#[0]⟩))) fun t78 =>
  Do (aPureC Go.Proofs.Try.prog 27 [s6, t78]) fun t79 =>
  Do (aExt t79 0) fun t80 =>
  Do (aExt t79 1) fun t81 =>
  Do (aExt t79 2) fun t82 =>
  aNewVar 35 [.val (.string ⟨#[]⟩), .val (.string ⟨#[]⟩), .val (.bool false), .val (.int .i64 0)] σ_2 fun t15 σ_3 =>
  storeA 4 t15 t80 σ_3 fun u_1 σ_4 =>
  Do (aBin Go.Proofs.Try.prog .add 3 s11 (.val (.int .i64 1))) fun t84 =>
  Do (aBuiltin Go.Proofs.Try.prog .len #[22] [s0]) fun t86 =>
  Do (aBin Go.Proofs.Try.prog .lss 3 t84 t86) fun t87 =>
  Do (aGuard s5 true (aIs t69)) fun t90 =>
  Do (aPick s5 t90 (.val (.bool false))) fun t91 =>
  Do (aGuard t91 true (loadA true 4 t12 σ_4)) fun t93 =>
  Do (aGuard t91 true (aIs s0)) fun t94 =>
  Do (aGuard t91 true (aIs s11)) fun t95 =>
  Do (aGuard t91 true (aIndexAddr .slice 4 t94 t95)) fun t96 =>
  Do (aGuard t91 true (loadF true 4 t96)) fun t97 =>
  Do (aGuard t91 true (aBin Go.Proofs.Try.prog .eql 35 t93 t97)) fun t98 =>
  Do (aPick t91 t98 (.val (.bool false))) fun t99 =>
  Do (aGuard t99 true (aIs t70)) fun t101 =>
  Do (aGuard t99 true (aBin Go.Proofs.Try.prog .eql 26 t101 (.val (.int .i64 0)))) fun t102 =>
  Do (aPick t99 t102 (.val (.bool false))) fun t103 =>
  Do (aGuard t103 true (aIs t82)) fun t105 =>
  Do (aGuard t103 true (aBin Go.Proofs.Try.prog .eql 26 t105 (.val (.int .i64 0)))) fun t106 =>
  Do (aPick t103 t106 (.val (.bool false))) fun t107 =>
  Do (aGuard t107 true (aIs t81)) fun t109 =>
  Do (aGuard t107 true (aIs t87)) fun t110 =>
  Do (aGuard t107 true (aBin Go.Proofs.Try.prog .eql 4 t109 t110)) fun t111 =>
  Do (aPick t107 t111 (.val (.bool false))) fun t112 =>
  Do (aGuard t112 true (aIs t87)) fun t114 =>
  Do (aGuard t112 true (aUn Go.Proofs.Try.prog .not t114)) fun t115 =>
  Do (aGuard t112 true (aIs t115)) fun t116 =>
  Do (aGuard t116 false (loadA true 4 t15 σ_4)) fun t117 =>
  Do (aGuard t116 false (aIs s0)) fun t118 =>
  Do (aGuard t116 false (aIs s11)) fun t119 =>
  Do (aGuard t116 false (aBin Go.Proofs.Try.prog .add 3 t119 (.val (.int .i64 1)))) fun t120 =>
  Do (aGuard t116 false (aIndexAddr .slice 4 t118 t120)) fun t121 =>
  Do (aGuard t116 false (loadF true 4 t121)) fun t122 =>
  Do (aGuard t116 false (aBin Go.Proofs.Try.prog .eql 35 t117 t122)) fun t123 =>
  Do (aGuard t112 true (aPick t116 (.val (.bool true)) t123)) fun t124 =>
  Do (aPick t112 t124 (.val (.bool false))) fun t125 =>
  Q (.ret t125) σ_4))
theorem law04_BlockBack.eq (a0 a1 : AV) (σ : Store) (Q : AEnd → Store → Prop) : vc (semOf Go.Proofs.Try.prog law04_BlockBack.mark) Go.Proofs.Try.f16.ntmps law04_BlockBack.ann (bodyOf Go.Proofs.Try.f16) (endK [.tmp 4] Q) (argFr [a0, a1]) σ = law04_BlockBack.sh a0 a1 σ Q := by kernel_rfl
theorem law04_BlockBack.go {a0 a1 : AV} {σ : Store} {Q : AEnd → Store → Prop} (h : law04_BlockBack.sh a0 a1 σ Q) : ACalls Go.Proofs.Try.prog 16 [a0, a1] σ Q :=
  acalls_of_eq [.tmp 4] Go.Proofs.Try.func16 (by kernel_rfl) (by kernel_rfl) (by kernel_rfl) (by kernel_rfl) (law04_BlockBack.eq a0 a1 σ Q) h
def law04_BlockNext.mark : Mark := ⟨fun t => Nat.beq t 14 || Nat.beq t 16 || Nat.beq t 23 || Nat.beq t 35 || Nat.beq t 59, fun t => false, fun t => false, fun t => Nat.beq t 50, fun t => false⟩
def law04_BlockNext.ann : Ann := ⟨fun n => bif Nat.beq n 8 then [0, 3, 4, 6, 7] else [], fun n => none, fun n => none⟩
/-- 'marlstone/marlstonelaw04.BlockNext' -/
def law04_BlockNext.sh (a0 : AV) (σ : Store) (Q : AEnd → Store → Prop) : Prop :=
  Do (aPureC Go.Proofs.Try.prog 18 []) fun t14 =>
  Do (aPureC Go.Proofs.Try.prog 44 [a0]) fun t16 =>
  Do (aBuiltin Go.Proofs.Try.prog .len #[22] [t16]) fun t18 =>
  Do (aBin Go.Proofs.Try.prog .eql 3 t18 (.val (.int .i64 0))) fun t19 =>
  aCond t19
    (Q (.ret t14) σ)
    (Do (aPureC Go.Proofs.Try.prog 20 [t16]) fun t23 =>
  Do (aExt t23 0) fun t24 =>
  Do (aExt t23 1) fun t25 =>
  aLoop (fun go vs σ =>
    At vs 0 fun s0 => At vs 1 fun s3 => At vs 2 fun s4 => At vs 3 fun s6 => At vs 4 fun s7 => Do (aBuiltin Go.Proofs.Try.prog .len #[22] [s0]) fun t28 =>
    Do (aBin Go.Proofs.Try.prog .lss 3 s7 t28) fun t29 =>
    aCond t29
      (Do (aPureC Go.Proofs.Try.prog 27 [s4, s6]) fun t35 =>
    Do (aExt t35 0) fun t36 =>
    Do (aExt t35 1) fun t37 =>
    Do (aExt t35 2) fun t38 =>
    aNewVar 35 [.val (.string ⟨#[]⟩), .val (.string ⟨#[]⟩), .val (.bool false), .val (.int .i64 0)] σ fun t8 σ_1 =>
    storeA 4 t8 t36 σ_1 fun u σ_2 =>
    Do (aUn Go.Proofs.Try.prog .not t37) fun t40 =>
    Do (aGuard t40 false (aIs t38)) fun t42 =>
    Do (aGuard t40 false (aBin Go.Proofs.Try.prog .neq 26 t42 (.val (.int .i64 0)))) fun t43 =>
    Do (aPick t40 (.val (.bool true)) t43) fun t44 =>
    Do (aGuard t44 false (loadA true 4 t8 σ_2)) fun t46 =>
    Do (aGuard t44 false (aIs s0)) fun t47 =>
    Do (aGuard t44 false (aIs s7)) fun t48 =>
    Do (aGuard t44 false (aIndexAddr .slice 4 t47 t48)) fun t49 =>
    Do (aGuard t44 false (loadF true 4 t49)) fun t50 =>
    Do (aGuard t44 false (aBin Go.Proofs.Try.prog .neq 35 t46 t50)) fun t51 =>
    Do (aPick t44 (.val (.bool true)) t51) fun t52 =>
    aCond t52
      (Q (.ret (.val (.bool false))) σ_2)
      (Do (aFieldAddr 0 1 t8) fun t53 =>
    Do (loadA false 1 t53 σ_2) fun t54 =>
    Do (aBin Go.Proofs.Try.prog .add 9 t54 (.val (.string ⟨#[0]⟩))) fun t55 =>
    Do (aBin Go.Proofs.Try.prog .add 3 s7 (.val (.int .i64 1))) fun t31 =>
    go [s0, s3, s4, t55, t31] σ_2))
      (Do (aPureC Go.Proofs.Try.prog 27 [s4, s6]) fun t59 =>
  Do (aExt t59 0) fun t60 =>
  Do (aExt t59 1) fun t61 =>
  Do (aExt t59 2) fun t62 =>
  aNewVar 35 [.val (.string ⟨#[]⟩), .val (.string ⟨#[]⟩), .val (.bool false), .val (.int .i64 0)] σ fun t11 σ_3 =>
  storeA 4 t11 t60 σ_3 fun u_1 σ_4 =>
  Do (aGuard s3 true (aIs t61)) fun t65 =>
  Do (aGuard s3 true (aUn Go.Proofs.Try.prog .not t65)) fun t66 =>
  Do (aPick s3 t66 (.val (.bool false))) fun t67 =>
  Do (aGuard t67 true (aIs t62)) fun t69 =>
  Do (aGuard t67 true (aBin Go.Proofs.Try.prog .eql 26 t69 (.val (.int .i64 0)))) fun t70 =>
  Do (aPick t67 t70 (.val (.bool false))) fun t71 =>
  Q (.ret t71) σ_4))
    [t16, t14, t24, (.val (.string ⟨#[]⟩)), (.val (.int .i64 0))] σ)
theorem law04_BlockNext.eq (a0 : AV) (σ : Store) (Q : AEnd → Store → Prop) : vc (semOf Go.Proofs.Try.prog law04_BlockNext.mark) Go.Proofs.Try.f17.ntmps law04_BlockNext.ann (bodyOf Go.Proofs.Try.f17) (endK [.tmp 2] Q) (argFr [a0]) σ = law04_BlockNext.sh a0 σ Q := by kernel_rfl
theorem law04_BlockNext.go {a0 : AV} {σ : Store} {Q : AEnd → Store → Prop} (h : law04_BlockNext.sh a0 σ Q) : ACalls Go.Proofs.Try.prog 17 [a0] σ Q :=
  acalls_of_eq [.tmp 2] Go.Proofs.Try.func17 (by kernel_rfl) (by kernel_rfl) (by kernel_rfl) (by kernel_rfl) (law04_BlockNext.eq a0 σ Q) h
theorem seek_back {L : List En} (hf : fit L = true) (k : List UInt8) : seekH (blockBytes L) k = decide (placeN L k < L.length) ∧ (placeN L k < L.length → seekV (blockBytes L) k = L.getD (placeN L k) default) := by
  obtain ⟨_, _, e3, e4, _, _⟩ := blk_back' hf
  have e : seekH (blockBytes L) k = decide (placeN L k < L.length) := by rw [seekH, e3, e4]; rfl
  refine ⟨e, fun h => ?_⟩
  rw [seekV, e, decide_eq_true h, if_pos rfl, e3]
theorem BlockBack_ok (l : List En) (m : SM) (at_ : Int) (hl : l.length ≤ 100000000000000) (ha : (Lit.int .i64 at_).wf = true) : aPure Go.Proofs.Try.prog 16 [.lst 4 (l.map En.av) m, I .i64 at_] (B true) := by
  refine ACalls.fin (law04_BlockBack.go ?_)
  unfold law04_BlockBack.sh
  obtain ⟨L, hL⟩ : ∃ L, L = fitL ((l.take 70).map (cutE 130 1030)) := ⟨_, rfl⟩
  have h64 : L.length ≤ 64 := by rw [hL]; unfold fitL; simp; omega
  have hfit : 0 < L.length → fit L = true := fun h => by rw [hL] at h ⊢; exact fitL_fit h
  by_cases h0 : L.length = 0
  · rw [hL] at h0
    repeat' (first | with_reducible apply Stp.go | with_reducible refine imp fun _ => ?_ | (with_reducible refine hyp ?_ ?_; first | assumption | exact leftT_mem (by assumption)) | (with_reducible refine need ?_ ?_; first | trivial | omega | exact ⟨by assumption, by omega⟩ | (simp only [List.length_append, List.length_cons, List.length_nil, List.length_map, List.length_take, List.length_drop, List.length_replicate]; omega)) | (with_reducible refine fact ?_ ?_; first | trivial | exact ⟨rfl, rfl⟩ | kernel_rfl) | with_reducible refine choT (by assumption) ?_ | with_reducible refine choF (by assumption) ?_ | with_reducible refine choF' (by assumption) ?_ | (with_reducible refine altT ?_ ?_; first | omega | (simp only [List.length_append, List.length_cons, List.length_nil, List.length_map, List.length_take, List.length_drop, List.length_replicate]; omega)) | with_reducible refine altF ?_ | with_reducible refine all fun _ => ?_ | with_reducible refine both ?_ ?_ | (with_reducible refine choT ?_ ?_; omega) | (with_reducible refine choF ?_ ?_; omega) | with_reducible refine cho (fun _ => ?_) (fun _ => ?_))
    exact ⟨_, _, _, rfl, Sub.app_nil _, rfl, rfl⟩
  have hf := hfit (by omega)
  obtain ⟨e1, e2, e3, e4, e5, e6⟩ := blk_back' hf
  obtain ⟨_, _, hs, hr⟩ := fit_right hf
  have hR := (sorted_iff L).1 hs
  have h0' := h0
  rw [hL] at h0'
  repeat' (first | with_reducible apply Stp.go | with_reducible refine imp fun _ => ?_ | (with_reducible refine hyp ?_ ?_; first | assumption | exact leftT_mem (by assumption)) | (with_reducible refine need ?_ ?_; first | trivial | omega | exact ⟨by assumption, by omega⟩ | (simp only [List.length_append, List.length_cons, List.length_nil, List.length_map, List.length_take, List.length_drop, List.length_replicate]; omega)) | (with_reducible refine fact ?_ ?_; first | trivial | exact ⟨rfl, rfl⟩ | kernel_rfl) | with_reducible refine choT (by assumption) ?_ | with_reducible refine choF (by assumption) ?_ | with_reducible refine choF' (by assumption) ?_ | (with_reducible refine altT ?_ ?_; first | omega | (simp only [List.length_append, List.length_cons, List.length_nil, List.length_map, List.length_take, List.length_drop, List.length_replicate]; omega)) | with_reducible refine altF ?_ | with_reducible refine all fun _ => ?_ | with_reducible refine both ?_ ?_ | (with_reducible refine choT ?_ ?_; omega) | (with_reducible refine choF ?_ ?_; omega) | with_reducible refine cho (fun _ => ?_) (fun _ => ?_))
  rw [← hL]
  rw [e1, e2]
  repeat' (first | with_reducible apply Stp.go | with_reducible refine imp fun _ => ?_ | (with_reducible refine hyp ?_ ?_; first | assumption | exact leftT_mem (by assumption)) | (with_reducible refine need ?_ ?_; first | trivial | omega | exact ⟨by assumption, by omega⟩ | (simp only [List.length_append, List.length_cons, List.length_nil, List.length_map, List.length_take, List.length_drop, List.length_replicate]; omega)) | (with_reducible refine fact ?_ ?_; first | trivial | exact ⟨rfl, rfl⟩ | kernel_rfl) | with_reducible refine choT (by assumption) ?_ | with_reducible refine choF (by assumption) ?_ | with_reducible refine choF' (by assumption) ?_ | (with_reducible refine altT ?_ ?_; first | omega | (simp only [List.length_append, List.length_cons, List.length_nil, List.length_map, List.length_take, List.length_drop, List.length_replicate]; omega)) | with_reducible refine altF ?_ | with_reducible refine all fun _ => ?_ | with_reducible refine both ?_ ?_ | (with_reducible refine choT ?_ ?_; omega) | (with_reducible refine choF ?_ ?_; omega) | with_reducible refine cho (fun _ => ?_) (fun _ => ?_))
  rw [e3, e4]
  have h8 : ¬ (blockBytes L).length < 8 := by omega
  have hLL : L = L := rfl
  repeat' (first | with_reducible apply Stp.go | with_reducible refine imp fun _ => ?_ | (with_reducible refine hyp ?_ ?_; first | assumption | exact leftT_mem (by assumption)) | (with_reducible refine need ?_ ?_; first | trivial | omega | exact ⟨by assumption, by omega⟩ | (simp only [List.length_append, List.length_cons, List.length_nil, List.length_map, List.length_take, List.length_drop, List.length_replicate]; omega)) | (with_reducible refine fact ?_ ?_; first | trivial | exact ⟨rfl, rfl⟩ | kernel_rfl) | with_reducible refine choT (by assumption) ?_ | with_reducible refine choF (by assumption) ?_ | with_reducible refine choF' (by assumption) ?_ | (with_reducible refine altT ?_ ?_; first | omega | (simp only [List.length_append, List.length_cons, List.length_nil, List.length_map, List.length_take, List.length_drop, List.length_replicate]; omega)) | with_reducible refine altF ?_ | with_reducible refine all fun _ => ?_ | with_reducible refine both ?_ ?_ | (with_reducible refine choT ?_ ?_; omega) | (with_reducible refine choF ?_ ?_; omega) | with_reducible refine cho (fun _ => ?_) (fun _ => ?_))
  refine joinI (β := Nat) (fun n => n < L.length) (fun n => [.lst 4 (L.map En.av) .ro, B true, .lst 1 ((blockBytes L).map byt) .ro, I .i64 (n : Nat)]) (fun _ => []) ?_ ?_
  · by_cases hp : 0 < at_
    · obtain ⟨q, rfl⟩ : ∃ q : Nat, at_ = q := ⟨at_.toNat, by omega⟩
      repeat' (first | with_reducible apply Stp.go | with_reducible refine imp fun _ => ?_ | (with_reducible refine hyp ?_ ?_; first | assumption | exact leftT_mem (by assumption)) | (with_reducible refine need ?_ ?_; first | trivial | omega | exact ⟨by assumption, by omega⟩ | (simp only [List.length_append, List.length_cons, List.length_nil, List.length_map, List.length_take, List.length_drop, List.length_replicate]; omega)) | (with_reducible refine fact ?_ ?_; first | trivial | exact ⟨rfl, rfl⟩ | kernel_rfl) | with_reducible refine choT (by assumption) ?_ | with_reducible refine choF (by assumption) ?_ | with_reducible refine choF' (by assumption) ?_ | (with_reducible refine altT ?_ ?_; first | omega | (simp only [List.length_append, List.length_cons, List.length_nil, List.length_map, List.length_take, List.length_drop, List.length_replicate]; omega)) | with_reducible refine altF ?_ | with_reducible refine all fun _ => ?_ | with_reducible refine both ?_ ?_ | (with_reducible refine choT ?_ ?_; omega) | (with_reducible refine choF ?_ ?_; omega) | with_reducible refine cho (fun _ => ?_) (fun _ => ?_))
      exact meet (q % L.length) (Nat.mod_lt _ (by omega)) (Sub.refl _ _)
    · repeat' (first | with_reducible apply Stp.go | with_reducible refine imp fun _ => ?_ | (with_reducible refine hyp ?_ ?_; first | assumption | exact leftT_mem (by assumption)) | (with_reducible refine need ?_ ?_; first | trivial | omega | exact ⟨by assumption, by omega⟩ | (simp only [List.length_append, List.length_cons, List.length_nil, List.length_map, List.length_take, List.length_drop, List.length_replicate]; omega)) | (with_reducible refine fact ?_ ?_; first | trivial | exact ⟨rfl, rfl⟩ | kernel_rfl) | with_reducible refine choT (by assumption) ?_ | with_reducible refine choF (by assumption) ?_ | with_reducible refine choF' (by assumption) ?_ | (with_reducible refine altT ?_ ?_; first | omega | (simp only [List.length_append, List.length_cons, List.length_nil, List.length_map, List.length_take, List.length_drop, List.length_replicate]; omega)) | with_reducible refine altF ?_ | with_reducible refine all fun _ => ?_ | with_reducible refine both ?_ ?_ | (with_reducible refine choT ?_ ?_; omega) | (with_reducible refine choF ?_ ?_; omega) | with_reducible refine cho (fun _ => ?_) (fun _ => ?_))
      exact meet 0 (by omega) (Sub.refl _ _)
  intro n hn
  have kb := (right_bounds (hr n hn)).2.1
  have p1 := place_self hR hn
  have p2 := place_next hR hn
  obtain ⟨s1, s2⟩ := seek_back hf (L.getD n default).key
  obtain ⟨s3, s4⟩ := seek_back hf ((L.getD n default).key ++ [0])
  rw [p1] at s1 s2
  rw [p2] at s3 s4
  have s2 := s2 hn
  rw [decide_eq_true hn] at s1
  repeat' (first | with_reducible apply Stp.go | with_reducible refine imp fun _ => ?_ | (with_reducible refine hyp ?_ ?_; first | assumption | exact leftT_mem (by assumption)) | (with_reducible refine need ?_ ?_; first | trivial | omega | exact ⟨by assumption, by omega⟩ | (simp only [List.length_append, List.length_cons, List.length_nil, List.length_map, List.length_take, List.length_drop, List.length_replicate]; omega)) | (with_reducible refine fact ?_ ?_; first | trivial | exact ⟨rfl, rfl⟩ | kernel_rfl) | with_reducible refine choT (by assumption) ?_ | with_reducible refine choF (by assumption) ?_ | with_reducible refine choF' (by assumption) ?_ | (with_reducible refine altT ?_ ?_; first | omega | (simp only [List.length_append, List.length_cons, List.length_nil, List.length_map, List.length_take, List.length_drop, List.length_replicate]; omega)) | with_reducible refine altF ?_ | with_reducible refine all fun _ => ?_ | with_reducible refine both ?_ ?_ | (with_reducible refine choT ?_ ?_; omega) | (with_reducible refine choF ?_ ?_; omega) | with_reducible refine cho (fun _ => ?_) (fun _ => ?_))
  · rename_i h
    refine ⟨_, _, _, rfl, Sub.app_nil _, ?_, rfl⟩
    rw [s4 h, decide_eq_true rfl]
  · exact ⟨_, _, _, rfl, Sub.app_nil _, rfl, rfl⟩
theorem BlockNext_ok (l : List En) (m : SM) (hl : l.length ≤ 100000000000000) : aPure Go.Proofs.Try.prog 17 [.lst 4 (l.map En.av) m] (B true) := by
  refine ACalls.fin (law04_BlockNext.go ?_)
  unfold law04_BlockNext.sh
  obtain ⟨L, hL⟩ : ∃ L, L = fitL ((l.take 70).map (cutE 130 1030)) := ⟨_, rfl⟩
  have h64 : L.length ≤ 64 := by rw [hL]; unfold fitL; simp; omega
  have hfit : 0 < L.length → fit L = true := fun h => by rw [hL] at h ⊢; exact fitL_fit h
  by_cases h0 : L.length = 0
  · rw [hL] at h0
    repeat' (first | with_reducible apply Stp.go | with_reducible refine imp fun _ => ?_ | (with_reducible refine hyp ?_ ?_; first | assumption | exact leftT_mem (by assumption)) | (with_reducible refine need ?_ ?_; first | trivial | omega | exact ⟨by assumption, by omega⟩ | (simp only [List.length_append, List.length_cons, List.length_nil, List.length_map, List.length_take, List.length_drop, List.length_replicate]; omega)) | (with_reducible refine fact ?_ ?_; first | trivial | exact ⟨rfl, rfl⟩ | kernel_rfl) | with_reducible refine choT (by assumption) ?_ | with_reducible refine choF (by assumption) ?_ | with_reducible refine choF' (by assumption) ?_ | (with_reducible refine altT ?_ ?_; first | omega | (simp only [List.length_append, List.length_cons, List.length_nil, List.length_map, List.length_take, List.length_drop, List.length_replicate]; omega)) | with_reducible refine altF ?_ | with_reducible refine all fun _ => ?_ | with_reducible refine both ?_ ?_ | (with_reducible refine choT ?_ ?_; omega) | (with_reducible refine choF ?_ ?_; omega) | with_reducible refine cho (fun _ => ?_) (fun _ => ?_))
    exact ⟨_, _, _, rfl, Sub.app_nil _, rfl, rfl⟩
  have hf := hfit (by omega)
  obtain ⟨e1, e2, e3, e4, e5, e6⟩ := blk_back' hf
  obtain ⟨_, _, hs, hr⟩ := fit_right hf
  have hR := (sorted_iff L).1 hs
  have h0' := h0
  rw [hL] at h0'
  repeat' (first | with_reducible apply Stp.go | with_reducible refine imp fun _ => ?_ | (with_reducible refine hyp ?_ ?_; first | assumption | exact leftT_mem (by assumption)) | (with_reducible refine need ?_ ?_; first | trivial | omega | exact ⟨by assumption, by omega⟩ | (simp only [List.length_append, List.length_cons, List.length_nil, List.length_map, List.length_take, List.length_drop, List.length_replicate]; omega)) | (with_reducible refine fact ?_ ?_; first | trivial | exact ⟨rfl, rfl⟩ | kernel_rfl) | with_reducible refine choT (by assumption) ?_ | with_reducible refine choF (by assumption) ?_ | with_reducible refine choF' (by assumption) ?_ | (with_reducible refine altT ?_ ?_; first | omega | (simp only [List.length_append, List.length_cons, List.length_nil, List.length_map, List.length_take, List.length_drop, List.length_replicate]; omega)) | with_reducible refine altF ?_ | with_reducible refine all fun _ => ?_ | with_reducible refine both ?_ ?_ | (with_reducible refine choT ?_ ?_; omega) | (with_reducible refine choF ?_ ?_; omega) | with_reducible refine cho (fun _ => ?_) (fun _ => ?_))
  rw [← hL, e1]
  repeat' (first | with_reducible apply Stp.go | with_reducible refine imp fun _ => ?_ | (with_reducible refine hyp ?_ ?_; first | assumption | exact leftT_mem (by assumption)) | (with_reducible refine need ?_ ?_; first | trivial | omega | exact ⟨by assumption, by omega⟩ | (simp only [List.length_append, List.length_cons, List.length_nil, List.length_map, List.length_take, List.length_drop, List.length_replicate]; omega)) | (with_reducible refine fact ?_ ?_; first | trivial | exact ⟨rfl, rfl⟩ | kernel_rfl) | with_reducible refine choT (by assumption) ?_ | with_reducible refine choF (by assumption) ?_ | with_reducible refine choF' (by assumption) ?_ | (with_reducible refine altT ?_ ?_; first | omega | (simp only [List.length_append, List.length_cons, List.length_nil, List.length_map, List.length_take, List.length_drop, List.length_replicate]; omega)) | with_reducible refine altF ?_ | with_reducible refine all fun _ => ?_ | with_reducible refine both ?_ ?_ | (with_reducible refine choT ?_ ?_; omega) | (with_reducible refine choF ?_ ?_; omega) | with_reducible refine cho (fun _ => ?_) (fun _ => ?_))
  refine loopI (β := Nat × List UInt8) (fun x => x.1 ≤ L.length ∧ placeN L x.2 = x.1 ∧ x.2.length ≤ 129) (fun x => [.lst 4 (L.map En.av) .ro, B true, .lst 1 ((blockBytes L).map byt) .ro, S x.2, I .i64 (x.1 : Nat)]) (fun _ => []) (fun x => L.length - x.1) (0, []) ⟨Nat.zero_le _, place_nil L, by simp⟩ (Sub.refl _ _) ?_
  rintro ⟨i, k⟩ ⟨hi, hp, hk⟩
  dsimp only at hi hp hk ⊢
  obtain ⟨s1, s2⟩ := seek_back hf k
  rw [hp] at s1 s2
  by_cases hlt : i < L.length
  · have s2 := s2 hlt
    rw [decide_eq_true hlt] at s1
    have kb := (right_bounds (hr i hlt)).2.1
    have kb2 : (seekV (blockBytes L) k).key.length ≤ 128 := by rw [s2]; exact kb
    repeat' (first | with_reducible apply Stp.go | with_reducible refine imp fun _ => ?_ | (with_reducible refine hyp ?_ ?_; first | assumption | exact leftT_mem (by assumption)) | (with_reducible refine need ?_ ?_; first | trivial | omega | exact ⟨by assumption, by omega⟩ | (simp only [List.length_append, List.length_cons, List.length_nil, List.length_map, List.length_take, List.length_drop, List.length_replicate]; omega)) | (with_reducible refine fact ?_ ?_; first | trivial | exact ⟨rfl, rfl⟩ | kernel_rfl) | with_reducible refine choT (by assumption) ?_ | with_reducible refine choF (by assumption) ?_ | with_reducible refine choF' (by assumption) ?_ | (with_reducible refine altT ?_ ?_; first | omega | (simp only [List.length_append, List.length_cons, List.length_nil, List.length_map, List.length_take, List.length_drop, List.length_replicate]; omega)) | with_reducible refine altF ?_ | with_reducible refine all fun _ => ?_ | with_reducible refine both ?_ ?_ | (with_reducible refine choT ?_ ?_; omega) | (with_reducible refine choF ?_ ?_; omega) | with_reducible refine cho (fun _ => ?_) (fun _ => ?_))
    rw [s2]
    exact again (i + 1, _) (by dsimp only; omega) ⟨by dsimp only; omega, place_next hR hlt, by dsimp only; rw [List.length_append]; simp only [List.length_cons, List.length_nil]; omega⟩ (Sub.app_nil _)
  · rw [decide_eq_false hlt] at s1
    have hn : ¬ seekH (blockBytes L) k = true := by rw [s1]; decide
    repeat' (first | with_reducible apply Stp.go | with_reducible refine imp fun _ => ?_ | (with_reducible refine hyp ?_ ?_; first | assumption | exact leftT_mem (by assumption)) | (with_reducible refine need ?_ ?_; first | trivial | omega | exact ⟨by assumption, by omega⟩ | (simp only [List.length_append, List.length_cons, List.length_nil, List.length_map, List.length_take, List.length_drop, List.length_replicate]; omega)) | (with_reducible refine fact ?_ ?_; first | trivial | exact ⟨rfl, rfl⟩ | kernel_rfl) | with_reducible refine choT (by assumption) ?_ | with_reducible refine choF (by assumption) ?_ | with_reducible refine choF' (by assumption) ?_ | (with_reducible refine altT ?_ ?_; first | omega | (simp only [List.length_append, List.length_cons, List.length_nil, List.length_map, List.length_take, List.length_drop, List.length_replicate]; omega)) | with_reducible refine altF ?_ | with_reducible refine all fun _ => ?_ | with_reducible refine both ?_ ?_ | (with_reducible refine choT ?_ ?_; omega) | (with_reducible refine choF ?_ ?_; omega) | with_reducible refine cho (fun _ => ?_) (fun _ => ?_))
    rw [e4]
    exact ⟨_, _, _, rfl, Sub.app_nil _, rfl, rfl⟩
end Go.Ab
