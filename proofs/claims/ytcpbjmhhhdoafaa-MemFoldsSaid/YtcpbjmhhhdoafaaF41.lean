/- MemFolds. -/
import Derived.Test.YtcpbjmhhhdoafaaF37
import Derived.Test.YtcpbjmhhhdoafaaF9
import Derived.Test.YtcpbjmhhhdoafaaF39
set_option linter.unusedVariables false
set_option linter.unusedSimpArgs false
namespace Go.Ab
theorem place_self {l : List En} (hr : Rises l) {i : Nat} (hi : i < l.length) : placeN l (l.getD i default).key = i := by
  have h1 : ¬ i < placeN l (l.getD i default).key := by
    rw [← place_at hr _ hi]
    rw [lt_irrefl]; decide
  have h2 : i ≤ placeN l (l.getD i default).key := by
    cases i with
    | zero => exact Nat.zero_le _
    | succ i =>
      have h3 := (place_at hr (l.getD (i + 1) default).key (i := i) (by omega)).1 (by
        rw [List.getD_eq_getElem?_getD, List.getD_eq_getElem?_getD, List.getElem?_eq_getElem (by omega), List.getElem?_eq_getElem hi]
        exact List.pairwise_iff_getElem.1 hr i (i + 1) (by omega) hi (by omega))
      exact h3
  omega
theorem has_self {l : List En} {i : Nat} (hi : i < l.length) : hasK l (l.getD i default).key = true := by
  unfold hasK
  rw [List.any_eq_true]
  refine ⟨l.getD i default, ?_, by simp⟩
  rw [List.getD_eq_getElem?_getD, List.getElem?_eq_getElem hi]
  exact List.getElem_mem hi
theorem keyV_self {l : List En} (hr : Rises l) {i : Nat} (hi : i < l.length) : keyV l (l.getD i default).key = l.getD i default := by
  rw [keyV, if_pos (has_self hi), place_self hr hi]
/-- An entry lies in a range of keys. -/
def inR (lo hi : List UInt8) (x : En) : Bool := !lt x.key lo && (decide (hi = []) || lt x.key hi)
theorem mem_rangeL {l : List En} (hr : Rises l) {lo hi : List UInt8} {x : En} : x ∈ rangeL l lo hi ↔ x ∈ l ∧ inR lo hi x = true := by
  have hat : ∀ {i : Nat} {x : En}, l[i]? = some x → ∀ k, (lt x.key k = true ↔ i < placeN l k) := fun {i x} h k => by
    have hi : i < l.length := (List.getElem?_eq_some_iff.1 h).1
    have := place_at hr k hi
    rwa [List.getD_eq_getElem?_getD, h] at this
  have ht : ∀ {i : Nat} {x : En}, l[i]? = some x → ((decide (hi = []) || lt x.key hi) = true ↔ i < toN l hi) := fun {i x} h => by
    have hi' : i < l.length := (List.getElem?_eq_some_iff.1 h).1
    unfold toN
    by_cases h0 : hi = []
    · simp [h0, hi']
    · rw [if_neg h0, ← hat h]; simp [h0]
  unfold rangeL inR
  rw [List.mem_iff_getElem?, List.mem_iff_getElem?]
  constructor
  · rintro ⟨j, hj⟩
    rw [List.getElem?_take] at hj
    split at hj
    · rename_i hlt
      rw [List.getElem?_drop] at hj
      refine ⟨⟨_, hj⟩, ?_⟩
      have h1 : ¬ lt x.key lo = true := by rw [hat hj]; omega
      have h2 := (ht hj).2 (by omega)
      rw [Bool.and_eq_true]
      exact ⟨by simpa using h1, h2⟩
    · cases hj
  · rintro ⟨⟨i, hi'⟩, hc⟩
    rw [Bool.and_eq_true] at hc
    have h1 : ¬ i < placeN l lo := by rw [← hat hi']; simpa using hc.1
    have h2 := (ht hi').1 hc.2
    refine ⟨i - placeN l lo, ?_⟩
    rw [List.getElem?_take, if_pos (by omega), List.getElem?_drop, show placeN l lo + (i - placeN l lo) = i by omega]
    exact hi'
theorem rangeL_filter {l : List En} (hr : Rises l) (lo hi : List UInt8) : rangeL l lo hi = l.filter (inR lo hi) := by
  refine rises_ext ?_ (List.Pairwise.filter _ hr) fun x => by rw [mem_rangeL hr, List.mem_filter]
  exact (hr.sublist (List.drop_sublist _ _)).sublist (List.take_sublist _ _)
theorem filter_snoc {l : List En} {p : En → Bool} {i : Nat} (hi : i < l.length) : (l.take (i + 1)).filter p = (l.take i).filter p ++ (if p (l.getD i default) = true then [l.getD i default] else []) := by
  rw [take_succ_d hi, List.filter_append]
  congr 1
  by_cases h : p (l.getD i default) = true
  · rw [if_pos h, List.filter_cons_of_pos h]; rfl
  · rw [if_neg h, List.filter_cons_of_neg h]; rfl
def law10_MemFolds.mark : Mark := ⟨fun t => Nat.beq t 18 || Nat.beq t 40 || Nat.beq t 45, fun t => false, fun t => false, fun t => Nat.beq t 39 || Nat.beq t 73 || Nat.beq t 84 || Nat.beq t 91 || Nat.beq t 102 || Nat.beq t 111, fun t => Nat.beq t 60 || Nat.beq t 121⟩
def law10_MemFolds.ann : Ann := ⟨fun n => bif Nat.beq n 7 then [0, 1, 2, 8, 9, 10] else bif Nat.beq n 19 then [1, 2, 8, 12, 13, 14, 15] else [], fun n => none, fun n => none⟩
/-- 'marlstone/marlstonelaw10.MemFolds' -/
def law10_MemFolds.sh (a0 a1 a2 : AV) (σ : Store) (Q : AEnd → Store → Prop) : Prop :=
  Do (aPureC Go.Proofs.Try.prog 9 []) fun t18 =>
  aCall Go.Proofs.Try.prog 10 [] σ (fun t19 σ =>
  Do (aUn Go.Proofs.Try.prog .not t18) fun t21 =>
  Do (aGuard t21 false (aIs t19)) fun t23 =>
  Do (aGuard t21 false (aBin Go.Proofs.Try.prog .eql 23 t23 (.val (.pointer none)))) fun t24 =>
  Do (aPick t21 (.val (.bool true)) t24) fun t25 =>
  aCond t25
    (Q (.ret (.val (.bool false))) σ)
    (aLoop (fun go vs σ_1 =>
    At vs 0 fun s0 => At vs 1 fun s1 => At vs 2 fun s2 => At vs 3 fun s8 => At vs 4 fun s9 => At vs 5 fun s10 => Do (aBuiltin Go.Proofs.Try.prog .len #[39] [s0]) fun t28 =>
    Do (aBin Go.Proofs.Try.prog .lss 3 s10 t28) fun t29 =>
    Do (aGuard t29 true (aIs s10)) fun t31 =>
    Do (aGuard t29 true (aBin Go.Proofs.Try.prog .lss 3 t31 (.val (.int .i64 60)))) fun t32 =>
    Do (aPick t29 t32 (.val (.bool false))) fun t33 =>
    aCond t33
      (Do (aIndexAddr .slice 4 s0 s10) fun t38 =>
    Do (loadF true 4 t38) fun t39 =>
    Do (aPureC Go.Proofs.Try.prog 16 [t39]) fun t40 =>
    aNewVar 29 [.val (.string ⟨#[]⟩), .val (.string ⟨#[]⟩), .val (.bool false), .val (.int .i64 0)] σ_1 fun t11 σ_2 =>
    storeA 4 t11 t40 σ_2 fun u σ_3 =>
    Do (aBin Go.Proofs.Try.prog .add 3 s10 (.val (.int .i64 1))) fun t42 =>
    Do (aFieldAddr 3 1 t11) fun t43 =>
    storeA 1 t43 t42 σ_3 fun u_1 σ_4 =>
    Do (loadA true 4 t11 σ_4) fun t44 =>
    Do (aPureC Go.Proofs.Try.prog 27 [t44]) fun t45 =>
    Do (aUn Go.Proofs.Try.prog .not t45) fun t46 =>
    aCond t46
      (Do (aBin Go.Proofs.Try.prog .add 3 s10 (.val (.int .i64 1))) fun t35 =>
    go [s0, s1, s2, s8, s9, t35] σ_4)
      (Do (loadA true 4 t11 σ_4) fun t48 =>
    aCall Go.Proofs.Try.prog 11 [s8, t48] σ_4 (fun t49 σ_5 =>
    Do (aBin Go.Proofs.Try.prog .neq 25 t49 (.val (.int .i64 0))) fun t50 =>
    aCond t50
      (Q (.ret (.val (.bool false))) σ_5)
      (Do (loadA true 4 t11 σ_5) fun t52 =>
    Do (aSlLit (mkE [.val (.string ⟨#[]⟩), .val (.string ⟨#[]⟩), .val (.bool false), .val (.int .i64 0)]) 4 1 [(0, t52)]) fun t53 =>
    aAppend 29 4 48 s9 t53 σ_5 (subK fun t54 σ_6 =>
    Do (aBin Go.Proofs.Try.prog .add 3 s10 (.val (.int .i64 1))) fun t35_1 =>
    go [s0, s1, s2, s8, t54, t35_1] σ_6))) (fun e σ_7 => Q (.pan e) σ_7)))
      (aCall Go.Proofs.Try.prog 28 [s9] σ_1 (fun t56 σ_8 =>
  aCall Go.Proofs.Try.prog 25 [s8] σ_8 (fun t58 σ_9 =>
  Do (lookC Go.Proofs.Try.prog 20 [t58, t56] σ_9) fun t60 =>
  aLoop (fun go_1 vs_1 σ_10 =>
    At vs_1 0 fun s1_1 => At vs_1 1 fun s2_1 => At vs_1 2 fun s8_1 => At vs_1 3 fun s12 => At vs_1 4 fun s13 => At vs_1 5 fun s14 => At vs_1 6 fun s15 => Do (aBuiltin Go.Proofs.Try.prog .len #[39] [s12]) fun t63 =>
    Do (aBin Go.Proofs.Try.prog .lss 3 s15 t63) fun t64 =>
    aCond t64
      (Do (aIndexAddr .slice 4 s12 s15) fun t71 =>
    Do (aFieldAddr 0 1 t71) fun t72 =>
    Do (loadF false 1 t72) fun t73 =>
    aCall Go.Proofs.Try.prog 22 [s8_1, t73] σ_10 (fun t74 σ_11 =>
    Do (aExt t74 0) fun t75 =>
    Do (aExt t74 1) fun t76 =>
    aNewVar 29 [.val (.string ⟨#[]⟩), .val (.string ⟨#[]⟩), .val (.bool false), .val (.int .i64 0)] σ_11 fun t16 σ_12 =>
    storeA 4 t16 t75 σ_12 fun u_2 σ_13 =>
    Do (aUn Go.Proofs.Try.prog .not t76) fun t78 =>
    Do (aGuard t78 false (loadA true 4 t16 σ_13)) fun t80 =>
    Do (aGuard t78 false (aIs s12)) fun t81 =>
    Do (aGuard t78 false (aIs s15)) fun t82 =>
    Do (aGuard t78 false (aIndexAddr .slice 4 t81 t82)) fun t83 =>
    Do (aGuard t78 false (loadF true 4 t83)) fun t84 =>
    Do (aGuard t78 false (aBin Go.Proofs.Try.prog .neq 29 t80 t84)) fun t85 =>
    Do (aPick t78 (.val (.bool true)) t85) fun t86 =>
    aCond t86
      (Q (.ret (.val (.bool false))) σ_13)
      (Do (aIndexAddr .slice 4 s12 s15) fun t89 =>
    Do (aFieldAddr 0 1 t89) fun t90 =>
    Do (loadF false 1 t90) fun t91 =>
    Do (aBin Go.Proofs.Try.prog .geq 9 t91 s1_1) fun t93 =>
    Do (aGuard t93 true (aIs s2_1)) fun t95 =>
    Do (aGuard t93 true (aBin Go.Proofs.Try.prog .eql 9 t95 (.val (.string ⟨#[]⟩)))) fun t96 =>
    Do (aGuard t93 true (aIs t96)) fun t97 =>
    Do (aGuard t97 false (aIs s12)) fun t98 =>
    Do (aGuard t97 false (aIs s15)) fun t99 =>
    Do (aGuard t97 false (aIndexAddr .slice 4 t98 t99)) fun t100 =>
    Do (aGuard t97 false (aFieldAddr 0 1 t100)) fun t101 =>
    Do (aGuard t97 false (loadF false 1 t101)) fun t102 =>
    Do (aGuard t97 false (aIs s2_1)) fun t103 =>
    Do (aGuard t97 false (aBin Go.Proofs.Try.prog .lss 9 t102 t103)) fun t104 =>
    Do (aGuard t93 true (aPick t97 (.val (.bool true)) t104)) fun t105 =>
    Do (aPick t93 t105 (.val (.bool false))) fun t106 =>
    aCond t106
      (Do (aIndexAddr .slice 4 s12 s15) fun t110 =>
      Do (loadF true 4 t110) fun t111 =>
      Do (aSlLit (mkE [.val (.string ⟨#[]⟩), .val (.string ⟨#[]⟩), .val (.bool false), .val (.int .i64 0)]) 4 1 [(0, t111)]) fun t112 =>
      aAppend 29 4 48 s14 t112 σ_13 (subK fun t113 σ_14 =>
      Do (aBin Go.Proofs.Try.prog .add 3 s15 (.val (.int .i64 1))) fun t66 =>
    go_1 [s1_1, s2_1, s8_1, s12, s13, t113, t66] σ_14))
      (Do (aBin Go.Proofs.Try.prog .add 3 s15 (.val (.int .i64 1))) fun t66_1 =>
    go_1 [s1_1, s2_1, s8_1, s12, s13, s14, t66_1] σ_13))) (fun e_1 σ_15 => Q (.pan e_1) σ_15))
      (Do (aGuard s13 true (aIs s8_1)) fun t116 =>
  Do (aGuard s13 true (aIs s1_1)) fun t117 =>
  Do (aGuard s13 true (aIs s2_1)) fun t118 =>
  GEff s13 true (aCall Go.Proofs.Try.prog 19 [t116, t117, t118] σ_10 (fun t119 σ_16 =>
    Do (aGuard s13 true (aIs s14)) fun t120 =>
  Do (aGuard s13 true (lookC Go.Proofs.Try.prog 20 [t119, t120] σ_16)) fun t121 =>
  Do (aPick s13 t121 (.val (.bool false))) fun t122 =>
  Do (aGuard t122 true (aIs s8_1)) fun t124 =>
  GEff t122 true (aCall Go.Proofs.Try.prog 12 [t124] σ_16 (fun t125 σ_17 =>
    Do (aGuard t122 true (aIs s12)) fun t126 =>
  Do (aGuard t122 true (aBuiltin Go.Proofs.Try.prog .len #[39] [t126])) fun t127 =>
  Do (aGuard t122 true (aBin Go.Proofs.Try.prog .eql 3 t125 t127)) fun t128 =>
  Do (aPick t122 t128 (.val (.bool false))) fun t129 =>
  Q (.ret t129) σ_17) (fun e_2 σ_18 => Q (.pan e_2) σ_18))
  (Do (aGuard t122 true (aIs s12)) fun t126_1 =>
  Do (aGuard t122 true (aBuiltin Go.Proofs.Try.prog .len #[39] [t126_1])) fun t127_1 =>
  Do (aGuard t122 true (aBin Go.Proofs.Try.prog .eql 3 (.val Go.undef) t127_1)) fun t128_1 =>
  Do (aPick t122 t128_1 (.val (.bool false))) fun t129_1 =>
  Q (.ret t129_1) σ_16)) (fun e_3 σ_19 => Q (.pan e_3) σ_19))
  (Do (aGuard s13 true (aIs s14)) fun t120_1 =>
  Do (aGuard s13 true (lookC Go.Proofs.Try.prog 20 [(.val Go.undef), t120_1] σ_10)) fun t121_1 =>
  Do (aPick s13 t121_1 (.val (.bool false))) fun t122_1 =>
  Do (aGuard t122_1 true (aIs s8_1)) fun t124_1 =>
  GEff t122_1 true (aCall Go.Proofs.Try.prog 12 [t124_1] σ_10 (fun t125_1 σ_20 =>
    Do (aGuard t122_1 true (aIs s12)) fun t126_2 =>
  Do (aGuard t122_1 true (aBuiltin Go.Proofs.Try.prog .len #[39] [t126_2])) fun t127_2 =>
  Do (aGuard t122_1 true (aBin Go.Proofs.Try.prog .eql 3 t125_1 t127_2)) fun t128_2 =>
  Do (aPick t122_1 t128_2 (.val (.bool false))) fun t129_2 =>
  Q (.ret t129_2) σ_20) (fun e_4 σ_21 => Q (.pan e_4) σ_21))
  (Do (aGuard t122_1 true (aIs s12)) fun t126_3 =>
  Do (aGuard t122_1 true (aBuiltin Go.Proofs.Try.prog .len #[39] [t126_3])) fun t127_3 =>
  Do (aGuard t122_1 true (aBin Go.Proofs.Try.prog .eql 3 (.val Go.undef) t127_3)) fun t128_3 =>
  Do (aPick t122_1 t128_3 (.val (.bool false))) fun t129_3 =>
  Q (.ret t129_3) σ_10))))
    [s1, s2, s8, t56, t60, (.val (.slice none 0 0)), (.val (.int .i64 0))] σ_9) (fun e_5 σ_22 => Q (.pan e_5) σ_22)) (fun e_6 σ_23 => Q (.pan e_6) σ_23)))
    [a0, a1, a2, t19, (.val (.slice none 0 0)), (.val (.int .i64 0))] σ)) (fun e_7 σ_24 => Q (.pan e_7) σ_24)
theorem law10_MemFolds.eq (a0 a1 a2 : AV) (σ : Store) (Q : AEnd → Store → Prop) : vc (semOf Go.Proofs.Try.prog law10_MemFolds.mark) Go.Proofs.Try.f8.ntmps law10_MemFolds.ann (bodyOf Go.Proofs.Try.f8) (endK [.tmp 6] Q) (argFr [a0, a1, a2]) σ = law10_MemFolds.sh a0 a1 a2 σ Q := by kernel_rfl
theorem law10_MemFolds.go {a0 a1 a2 : AV} {σ : Store} {Q : AEnd → Store → Prop} (h : law10_MemFolds.sh a0 a1 a2 σ Q) : ACalls Go.Proofs.Try.prog 8 [a0, a1, a2] σ Q :=
  acalls_of_eq [.tmp 6] Go.Proofs.Try.func8 (by kernel_rfl) (by kernel_rfl) (by kernel_rfl) (by kernel_rfl) (law10_MemFolds.eq a0 a1 a2 σ Q) h
theorem MemFolds_ok (l : List En) (m : SM) (lo hi : List UInt8) (hl : l.length ≤ 100000000000000) (h1 : lo.length ≤ 140737488355328) (h2 : hi.length ≤ 140737488355328) : aPure Go.Proofs.Try.prog 8 [.lst 4 (l.map En.av) m, S lo, S hi] (B true) := by
  refine ACalls.fin (law10_MemFolds.go ?_)
  unfold law10_MemFolds.sh
  have ht : (true : Bool) = true := rfl
  repeat' (first | with_reducible apply Stp.go | with_reducible refine imp fun _ => ?_ | (with_reducible refine hyp ?_ ?_; first | assumption | exact leftT_mem (by assumption)) | (with_reducible refine need ?_ ?_; first | trivial | omega | exact ⟨by assumption, by omega⟩ | (simp only [List.length_append, List.length_cons, List.length_nil, List.length_map, List.length_take, List.length_drop, List.length_replicate, List.length_set]; omega)) | (with_reducible refine fact ?_ ?_; first | trivial | exact ⟨rfl, rfl⟩ | kernel_rfl) | with_reducible refine choT (by assumption) ?_ | with_reducible refine choF (by assumption) ?_ | with_reducible refine choF' (by assumption) ?_ | (with_reducible refine altT ?_ ?_; first | omega | (simp only [List.length_append, List.length_cons, List.length_nil, List.length_map, List.length_take, List.length_drop, List.length_replicate, List.length_set]; omega)) | with_reducible refine altF ?_ | with_reducible refine all fun _ => ?_ | with_reducible refine both ?_ ?_ | (with_reducible refine choT ?_ ?_; omega) | (with_reducible refine choF ?_ ?_; omega) | with_reducible refine cho (fun _ => ?_) (fun _ => ?_))
  rename_i b
  refine loopI (β := Nat × Value × Value × List En × Int × List UInt8) (fun x => x.1 ≤ 60 ∧ memI (foldE x.2.2.2.1) x.2.2.2.2.1 ∧ x.2.2.2.2.1 ≤ x.1 ∧ x.2.2.2.1.length ≤ x.1 ∧ x.2.2.2.2.2.length = 32) (fun x => [.lst 4 (l.map En.av) m, S lo, S hi, ptrAt b 0, .own x.2.1 x.2.2.2.1.length, I .i64 (x.1 : Nat)]) (fun x => .row x.2.1 EnT_ 4 (x.2.2.2.1.map En.av) 0 :: memS b x.2.2.1 (foldE x.2.2.2.1) x.2.2.2.2.1 x.2.2.2.2.2) (fun x => 60 - x.1) (0, .slice none 0 0, .slice none 0 0, [], 0, sha []) ⟨by omega, memI0 0, Int.le_refl _, Nat.le_refl _, sha_length _⟩ (Sub.nil_own EnT_ (sz := 4) (by decide) (memS b (.slice none 0 0) [] 0 (sha [])) [.lst 4 (l.map En.av) m, S lo, S hi, ptrAt b 0] [I .i64 ((0 : Nat) : Int)]) ?_
  rintro ⟨i, w, v, A, s, c⟩ ⟨h3, h4, h5, h6, h7⟩
  dsimp only at h3 h4 h5 h6 h7 ⊢
  haveI : Len32 c := ⟨h7⟩
  have hA := foldE_length A
  by_cases hi1 : i < l.length ∧ i < 60
  · obtain ⟨k1, k2⟩ := hi1
    by_cases hr : right ⟨(cutE 130 1030 (l.getD i default)).key, (cutE 130 1030 (l.getD i default)).val, (cutE 130 1030 (l.getD i default)).del, ((i + 1 : Nat) : Int)⟩ = true
    · have hX : putX (foldE A) s ⟨(cutE 130 1030 (l.getD i default)).key, (cutE 130 1030 (l.getD i default)).val, (cutE 130 1030 (l.getD i default)).del, ((i + 1 : Nat) : Int)⟩ = 0 := by
        rw [putX_small hr (.inr (by omega)), if_neg]
        show ¬ ((i + 1 : Nat) : Int) ≤ s
        omega
      repeat' (first | with_reducible apply Stp.go | with_reducible refine imp fun _ => ?_ | (with_reducible refine hyp ?_ ?_; first | assumption | exact leftT_mem (by assumption)) | (with_reducible refine need ?_ ?_; first | trivial | omega | exact ⟨by assumption, by omega⟩ | (simp only [List.length_append, List.length_cons, List.length_nil, List.length_map, List.length_take, List.length_drop, List.length_replicate, List.length_set]; omega)) | (with_reducible refine fact ?_ ?_; first | trivial | exact ⟨rfl, rfl⟩ | kernel_rfl) | with_reducible refine choT (by assumption) ?_ | with_reducible refine choF (by assumption) ?_ | with_reducible refine choF' (by assumption) ?_ | (with_reducible refine altT ?_ ?_; first | omega | (simp only [List.length_append, List.length_cons, List.length_nil, List.length_map, List.length_take, List.length_drop, List.length_replicate, List.length_set]; omega)) | with_reducible refine altF ?_ | with_reducible refine all fun _ => ?_ | with_reducible refine both ?_ ?_ | (with_reducible refine choT ?_ ?_; omega) | (with_reducible refine choF ?_ ?_; omega) | with_reducible refine cho (fun _ => ?_) (fun _ => ?_))
      rename_i v' w'
      have hq : (⟨(cutE 130 1030 (l.getD i default)).key, (cutE 130 1030 (l.getD i default)).val, (cutE 130 1030 (l.getD i default)).del, ((i + 1 : Nat) : Int)⟩ : En).seq = ((i + 1 : Nat) : Int) := rfl
      generalize (⟨(cutE 130 1030 (l.getD i default)).key, (cutE 130 1030 (l.getD i default)).val, (cutE 130 1030 (l.getD i default)).del, ((i + 1 : Nat) : Int)⟩ : En) = e0 at *
      rw [putL_put h4 hX, ← foldE_snoc, putS_ok hX, hq]
      have hI := putI (e := e0) h4
      rw [putL_put h4 hX, ← foldE_snoc, putS_ok hX, hq] at hI
      refine again (i + 1, w', v', A ++ [e0], ((i + 1 : Nat) : Int), putC (foldE A) s c e0) (by dsimp only; omega) ⟨by dsimp only; omega, hI, Int.le_refl _, by simp; omega, Len32.len⟩ ?_
      simp only [memS, List.cons_append, List.nil_append]
      exact subS _
    · repeat' (first | with_reducible apply Stp.go | with_reducible refine imp fun _ => ?_ | (with_reducible refine hyp ?_ ?_; first | assumption | exact leftT_mem (by assumption)) | (with_reducible refine need ?_ ?_; first | trivial | omega | exact ⟨by assumption, by omega⟩ | (simp only [List.length_append, List.length_cons, List.length_nil, List.length_map, List.length_take, List.length_drop, List.length_replicate, List.length_set]; omega)) | (with_reducible refine fact ?_ ?_; first | trivial | exact ⟨rfl, rfl⟩ | kernel_rfl) | with_reducible refine choT (by assumption) ?_ | with_reducible refine choF (by assumption) ?_ | with_reducible refine choF' (by assumption) ?_ | (with_reducible refine altT ?_ ?_; first | omega | (simp only [List.length_append, List.length_cons, List.length_nil, List.length_map, List.length_take, List.length_drop, List.length_replicate, List.length_set]; omega)) | with_reducible refine altF ?_ | with_reducible refine all fun _ => ?_ | with_reducible refine both ?_ ?_ | (with_reducible refine choT ?_ ?_; omega) | (with_reducible refine choF ?_ ?_; omega) | with_reducible refine cho (fun _ => ?_) (fun _ => ?_))
      refine again (i + 1, w, v, A, s, c) (by dsimp only; omega) ⟨by dsimp only; omega, h4, by dsimp only; omega, by dsimp only; omega, h7⟩ ?_
      exact Sub.drop_ (List.sublist_cons_self _ _) _
  · repeat' (first | with_reducible apply Stp.go | with_reducible refine imp fun _ => ?_ | (with_reducible refine hyp ?_ ?_; first | assumption | exact leftT_mem (by assumption)) | (with_reducible refine need ?_ ?_; first | trivial | omega | exact ⟨by assumption, by omega⟩ | (simp only [List.length_append, List.length_cons, List.length_nil, List.length_map, List.length_take, List.length_drop, List.length_replicate, List.length_set]; omega)) | (with_reducible refine fact ?_ ?_; first | trivial | exact ⟨rfl, rfl⟩ | kernel_rfl) | with_reducible refine choT (by assumption) ?_ | with_reducible refine choF (by assumption) ?_ | with_reducible refine choF' (by assumption) ?_ | (with_reducible refine altT ?_ ?_; first | omega | (simp only [List.length_append, List.length_cons, List.length_nil, List.length_map, List.length_take, List.length_drop, List.length_replicate, List.length_set]; omega)) | with_reducible refine altF ?_ | with_reducible refine all fun _ => ?_ | with_reducible refine both ?_ ?_ | (with_reducible refine choT ?_ ?_; omega) | (with_reducible refine choF ?_ ?_; omega) | with_reducible refine cho (fun _ => ?_) (fun _ => ?_))
    all_goals first | (exfalso; omega) | skip
    all_goals
      rw [decide_eq_true (rfl : foldE A = foldE A)]
      generalize foldE A = F at *
      have hr := h4.1
      refine loopI (β := Nat × Value) (fun x => x.1 ≤ F.length) (fun x => [S lo, S hi, ptrAt b 0, .lst 4 (F.map En.av) .ro, B true, .own x.2 ((F.take x.1).filter (inR lo hi)).length, I .i64 (x.1 : Nat)]) (fun x => .row x.2 EnT_ 4 (((F.take x.1).filter (inR lo hi)).map En.av) 0 :: memS b v F s c) (fun x => F.length - x.1) (0, .slice none 0 0) (Nat.zero_le _)
        (Sub.trans (Sub.drop_ (List.sublist_cons_self _ _) _) (Sub.nil_own EnT_ (sz := 4) (by decide) (memS b v F s c) [S lo, S hi, ptrAt b 0, .lst 4 (F.map En.av) .ro, B true] [I .i64 ((0 : Nat) : Int)])) ?_
      rintro ⟨i, w⟩ h8
      dsimp only at h8 ⊢
      by_cases hi1 : i < F.length
      · have k1 := has_self hi1
        have k2 := keyV_self hr hi1
        have k3 := filter_snoc (p := inR lo hi) hi1
        have k4 : ((F.take i).filter (inR lo hi)).length ≤ F.length := Nat.le_trans (List.length_filter_le _ _) (by rw [List.length_take]; omega)
        repeat' (first | with_reducible apply Stp.go | with_reducible refine imp fun _ => ?_ | (with_reducible refine hyp ?_ ?_; first | assumption | exact leftT_mem (by assumption)) | (with_reducible refine need ?_ ?_; first | trivial | omega | exact ⟨by assumption, by omega⟩ | (simp only [List.length_append, List.length_cons, List.length_nil, List.length_map, List.length_take, List.length_drop, List.length_replicate, List.length_set]; omega)) | (with_reducible refine fact ?_ ?_; first | trivial | exact ⟨rfl, rfl⟩ | kernel_rfl) | with_reducible refine choT (by assumption) ?_ | with_reducible refine choF (by assumption) ?_ | with_reducible refine choF' (by assumption) ?_ | (with_reducible refine altT ?_ ?_; first | omega | (simp only [List.length_append, List.length_cons, List.length_nil, List.length_map, List.length_take, List.length_drop, List.length_replicate, List.length_set]; omega)) | with_reducible refine altF ?_ | with_reducible refine all fun _ => ?_ | with_reducible refine both ?_ ?_ | (with_reducible refine choT ?_ ?_; omega) | (with_reducible refine choF ?_ ?_; omega) | with_reducible refine cho (fun _ => ?_) (fun _ => ?_))
        · rename_i hc
          have hf : inR lo hi (F.getD i default) = false := by
            unfold inR
            rw [show lt (F.getD i default).key lo = true from hc]; rfl
          refine again (i + 1, w) (by dsimp only; omega) (by dsimp only; omega) ?_
          dsimp only
          rw [k3, hf, if_neg (by decide), List.append_nil]
          exact Sub.drop_ (List.sublist_cons_self _ _) _
        · rename_i hc hh w2
          have hf : inR lo hi (F.getD i default) = true := by
            unfold inR
            rw [show lt (F.getD i default).key lo = false from Bool.eq_false_iff.2 hc, decide_eq_true hh]; rfl
          refine again (i + 1, w2) (by dsimp only; omega) (by dsimp only; omega) ?_
          dsimp only
          rw [k3, hf, if_pos rfl]
          exact Sub.drop_ (List.sublist_cons_self _ _) _
        · rename_i hc hh hj w2
          have hf : inR lo hi (F.getD i default) = true := by
            unfold inR
            rw [show lt (F.getD i default).key lo = false from Bool.eq_false_iff.2 hc, show lt (F.getD i default).key hi = true from hj, Bool.or_true]; rfl
          refine again (i + 1, w2) (by dsimp only; omega) (by dsimp only; omega) ?_
          dsimp only
          rw [k3, hf, if_pos rfl]
          exact Sub.drop_ (List.sublist_cons_self _ _) _
        · rename_i hc hh hj
          have hf : inR lo hi (F.getD i default) = false := by
            unfold inR
            rw [show lt (F.getD i default).key hi = false from Bool.eq_false_iff.2 hj, decide_eq_false hh, Bool.or_false, Bool.and_false]
          refine again (i + 1, w) (by dsimp only; omega) (by dsimp only; omega) ?_
          dsimp only
          rw [k3, hf, if_neg (by decide), List.append_nil]
          exact Sub.drop_ (List.sublist_cons_self _ _) _
      · have e1 : i = F.length := by omega
        subst e1
        have e2 := rangeL_filter hr lo hi
        have hrr : rangeL F lo hi = rangeL F lo hi := rfl
        have b2 := rangeL_le F lo hi
        rw [List.take_length, ← e2]
        repeat' (first | with_reducible apply Stp.go | with_reducible refine imp fun _ => ?_ | (with_reducible refine hyp ?_ ?_; first | assumption | exact leftT_mem (by assumption)) | (with_reducible refine need ?_ ?_; first | trivial | omega | exact ⟨by assumption, by omega⟩ | (simp only [List.length_append, List.length_cons, List.length_nil, List.length_map, List.length_take, List.length_drop, List.length_replicate, List.length_set]; omega)) | (with_reducible refine fact ?_ ?_; first | trivial | exact ⟨rfl, rfl⟩ | kernel_rfl) | with_reducible refine choT (by assumption) ?_ | with_reducible refine choF (by assumption) ?_ | with_reducible refine choF' (by assumption) ?_ | (with_reducible refine altT ?_ ?_; first | omega | (simp only [List.length_append, List.length_cons, List.length_nil, List.length_map, List.length_take, List.length_drop, List.length_replicate, List.length_set]; omega)) | with_reducible refine altF ?_ | with_reducible refine all fun _ => ?_ | with_reducible refine both ?_ ?_ | (with_reducible refine choT ?_ ?_; omega) | (with_reducible refine choF ?_ ?_; omega) | with_reducible refine cho (fun _ => ?_) (fun _ => ?_))
        refine ⟨_, _, _, rfl, Sub.app_nil _, ?_, rfl⟩
        rw [decide_eq_true rfl]
end Go.Ab
