/- MemRanges. -/
import Derived.Test.YtcpbjmhhhdoafaaF37
set_option linter.unusedVariables false
set_option linter.unusedSimpArgs false
namespace Go.Ab
theorem placeN_mono {l : List En} {a b : List UInt8} (h : lt b a = false) : placeN l a ≤ placeN l b := by
  unfold placeN
  refine List.countP_mono_left fun x _ hx => ?_
  cases h1 : lt x.key b with
  | true => rfl
  | false =>
    exfalso
    have hx : lt x.key a = true := by simpa using hx
    have h2 := lt_of_ge (a := b) (b := x.key) (c := a) h1 hx
    rw [h] at h2; cases h2
theorem rangeL_parts {l : List En} {lo hi : List UInt8} (h0 : lo ≠ []) (h : lt hi lo = false) : rangeL l [] lo ++ rangeL l lo hi ++ rangeL l hi [] = l := by
  have h1 : hi ≠ [] := by
    rintro rfl
    cases lo with
    | nil => exact h0 rfl
    | cons a b => simp [lt, Op.bytesLess] at h
  have h2 := placeN_mono (l := l) h
  have h3 := placeN_le l hi
  unfold rangeL toN
  rw [if_neg h0, if_neg h1, if_pos rfl, placeN_nil, Nat.zero_max, Nat.max_eq_right h2, Nat.max_eq_right h3]
  generalize placeN l lo = p at *
  generalize placeN l hi = q at *
  have e1 : l.take p ++ (l.drop p).take (q - p) = l.take q := by
    have : q = p + (q - p) := by omega
    conv => rhs; rw [this, List.take_add]
  rw [List.drop_zero, Nat.sub_zero, e1, List.take_of_length_le (l := l.drop q) (by simp), List.take_append_drop]
theorem rangeL_le (l : List En) (a b : List UInt8) : (rangeL l a b).length ≤ l.length := by
  unfold rangeL
  simp only [List.length_take, List.length_drop]
  omega
def law10_MemRanges.mark : Mark := ⟨fun t => Nat.beq t 12 || Nat.beq t 34, fun t => Nat.beq t 53, fun t => false, fun t => Nat.beq t 33, fun t => Nat.beq t 52 || Nat.beq t 70 || Nat.beq t 73⟩
def law10_MemRanges.ann : Ann := ⟨fun n => bif Nat.beq n 6 then [0, 1, 2, 8, 9] else [], fun n => bif Nat.beq n 13 then some [1, 2, 8] else none, fun n => none⟩
/-- 'marlstone/marlstonelaw10.MemRanges' -/
def law10_MemRanges.sh (a0 a1 a2 : AV) (σ : Store) (Q : AEnd → Store → Prop) : Prop :=
  Do (aPureC Go.Proofs.Try.prog 9 []) fun t12 =>
  aCall Go.Proofs.Try.prog 10 [] σ (fun t13 σ =>
  Do (aUn Go.Proofs.Try.prog .not t12) fun t15 =>
  Do (aGuard t15 false (aIs t13)) fun t17 =>
  Do (aGuard t15 false (aBin Go.Proofs.Try.prog .eql 23 t17 (.val (.pointer none)))) fun t18 =>
  Do (aPick t15 (.val (.bool true)) t18) fun t19 =>
  aCond t19
    (Q (.ret (.val (.bool false))) σ)
    (aLoop (fun go vs σ_1 =>
    At vs 0 fun s0 => At vs 1 fun s1 => At vs 2 fun s2 => At vs 3 fun s8 => At vs 4 fun s9 => Do (aBuiltin Go.Proofs.Try.prog .len #[39] [s0]) fun t22 =>
    Do (aBin Go.Proofs.Try.prog .lss 3 s9 t22) fun t23 =>
    Do (aGuard t23 true (aIs s9)) fun t25 =>
    Do (aGuard t23 true (aBin Go.Proofs.Try.prog .lss 3 t25 (.val (.int .i64 40)))) fun t26 =>
    Do (aPick t23 t26 (.val (.bool false))) fun t27 =>
    aCond t27
      (Do (aIndexAddr .slice 4 s0 s9) fun t32 =>
    Do (loadF true 4 t32) fun t33 =>
    Do (aPureC Go.Proofs.Try.prog 16 [t33]) fun t34 =>
    aNewVar 29 [.val (.string ⟨#[]⟩), .val (.string ⟨#[]⟩), .val (.bool false), .val (.int .i64 0)] σ_1 fun t10 σ_2 =>
    storeA 4 t10 t34 σ_2 fun u σ_3 =>
    Do (aBin Go.Proofs.Try.prog .add 3 s9 (.val (.int .i64 1))) fun t36 =>
    Do (aFieldAddr 3 1 t10) fun t37 =>
    storeA 1 t37 t36 σ_3 fun u_1 σ_4 =>
    Do (loadA true 4 t10 σ_4) fun t39 =>
    aCall Go.Proofs.Try.prog 11 [s8, t39] σ_4 (fun t40 σ_5 =>
    Do (aBin Go.Proofs.Try.prog .add 3 s9 (.val (.int .i64 1))) fun t29 =>
    go [s0, s1, s2, s8, t29] σ_5) (fun e σ_6 => Q (.pan e) σ_6))
      (aJoin (fun j =>
    Do (aBin Go.Proofs.Try.prog .gtr 9 s1 s2) fun t43 =>
    aCond t43
      (j [s2, s1, s8] σ_1)
      (j [s1, s2, s8] σ_1)) fun vs_1 σ_7 =>
  At vs_1 0 fun s1_1 => At vs_1 1 fun s2_1 => At vs_1 2 fun s8_1 => Do (aBin Go.Proofs.Try.prog .eql 9 s1_1 (.val (.string ⟨#[]⟩))) fun t47 =>
  aCond t47
    (aCall Go.Proofs.Try.prog 19 [s8_1, (.val (.string ⟨#[]⟩)), (.val (.string ⟨#[]⟩))] σ_7 (fun t49 σ_8 =>
    aCall Go.Proofs.Try.prog 25 [s8_1] σ_8 (fun t51 σ_9 =>
    Do (lookC Go.Proofs.Try.prog 20 [t49, t51] σ_9) fun t52 =>
    Q (.ret t52) σ_9) (fun e_1 σ_10 => Q (.pan e_1) σ_10)) (fun e_2 σ_11 => Q (.pan e_2) σ_11))
    (aRowL 29 (mkE [.val (.string ⟨#[]⟩), .val (.string ⟨#[]⟩), .val (.bool false), .val (.int .i64 0)]) 4 0 [] σ_7 fun t53 σ_12 =>
  aCall Go.Proofs.Try.prog 19 [s8_1, (.val (.string ⟨#[]⟩)), s1_1] σ_12 (fun t56 σ_13 =>
  aAppend 29 4 48 t53 t56 σ_13 (subK fun t57 σ_14 =>
  aCall Go.Proofs.Try.prog 19 [s8_1, s1_1, s2_1] σ_14 (fun t61 σ_15 =>
  aAppend 29 4 48 t57 t61 σ_15 (subK fun t62 σ_16 =>
  aCall Go.Proofs.Try.prog 19 [s8_1, s2_1, (.val (.string ⟨#[]⟩))] σ_16 (fun t65 σ_17 =>
  aAppend 29 4 48 t62 t65 σ_17 (subF fun t66 σ_18 =>
  aCall Go.Proofs.Try.prog 25 [s8_1] σ_18 (fun t69 σ_19 =>
  Do (lookC Go.Proofs.Try.prog 20 [t66, t69] σ_19) fun t70 =>
  Do (aGuard t70 true (aIs t66)) fun t72 =>
  Do (aGuard t70 true (lookC Go.Proofs.Try.prog 26 [t72] σ_19)) fun t73 =>
  Do (aPick t70 t73 (.val (.bool false))) fun t74 =>
  Q (.ret t74) σ_19) (fun e_3 σ_20 => Q (.pan e_3) σ_20))) (fun e_4 σ_21 => Q (.pan e_4) σ_21))) (fun e_5 σ_22 => Q (.pan e_5) σ_22))) (fun e_6 σ_23 => Q (.pan e_6) σ_23))))
    [a0, a1, a2, t13, (.val (.int .i64 0))] σ)) (fun e_7 σ_24 => Q (.pan e_7) σ_24)
theorem law10_MemRanges.eq (a0 a1 a2 : AV) (σ : Store) (Q : AEnd → Store → Prop) : vc (semOf Go.Proofs.Try.prog law10_MemRanges.mark) Go.Proofs.Try.f7.ntmps law10_MemRanges.ann (bodyOf Go.Proofs.Try.f7) (endK [.tmp 6] Q) (argFr [a0, a1, a2]) σ = law10_MemRanges.sh a0 a1 a2 σ Q := by kernel_rfl
theorem law10_MemRanges.go {a0 a1 a2 : AV} {σ : Store} {Q : AEnd → Store → Prop} (h : law10_MemRanges.sh a0 a1 a2 σ Q) : ACalls Go.Proofs.Try.prog 7 [a0, a1, a2] σ Q :=
  acalls_of_eq [.tmp 6] Go.Proofs.Try.func7 (by kernel_rfl) (by kernel_rfl) (by kernel_rfl) (by kernel_rfl) (law10_MemRanges.eq a0 a1 a2 σ Q) h
theorem MemRanges_ok (l : List En) (m : SM) (lo hi : List UInt8) (hl : l.length ≤ 100000000000000) (h1 : lo.length ≤ 140737488355328) (h2 : hi.length ≤ 140737488355328) : aPure Go.Proofs.Try.prog 7 [.lst 4 (l.map En.av) m, S lo, S hi] (B true) := by
  refine ACalls.fin (law10_MemRanges.go ?_)
  unfold law10_MemRanges.sh
  have ht : (true : Bool) = true := rfl
  repeat' (first | with_reducible apply Stp.go | with_reducible refine imp fun _ => ?_ | (with_reducible refine hyp ?_ ?_; first | assumption | exact leftT_mem (by assumption)) | (with_reducible refine need ?_ ?_; first | trivial | omega | exact ⟨by assumption, by omega⟩ | (simp only [List.length_append, List.length_cons, List.length_nil, List.length_map, List.length_take, List.length_drop, List.length_replicate, List.length_set]; omega)) | (with_reducible refine fact ?_ ?_; first | trivial | exact ⟨rfl, rfl⟩ | kernel_rfl) | with_reducible refine choT (by assumption) ?_ | with_reducible refine choF (by assumption) ?_ | with_reducible refine choF' (by assumption) ?_ | (with_reducible refine altT ?_ ?_; first | omega | (simp only [List.length_append, List.length_cons, List.length_nil, List.length_map, List.length_take, List.length_drop, List.length_replicate, List.length_set]; omega)) | with_reducible refine altF ?_ | with_reducible refine all fun _ => ?_ | with_reducible refine both ?_ ?_ | (with_reducible refine choT ?_ ?_; omega) | (with_reducible refine choF ?_ ?_; omega) | with_reducible refine cho (fun _ => ?_) (fun _ => ?_))
  rename_i b
  refine loopI (β := Nat × Value × List En × Int × List UInt8) (fun x => x.1 ≤ 40 ∧ memI x.2.2.1 x.2.2.2.1 ∧ x.2.2.2.2.length = 32) (fun x => [.lst 4 (l.map En.av) m, S lo, S hi, ptrAt b 0, I .i64 (x.1 : Nat)]) (fun x => memS b x.2.1 x.2.2.1 x.2.2.2.1 x.2.2.2.2) (fun x => 40 - x.1) (0, .slice none 0 0, [], 0, sha []) ⟨by omega, memI0 0, sha_length _⟩ (by simpa using Sub.refl _ _) ?_
  rintro ⟨i, v, n, s, c⟩ ⟨h3, h4, h5⟩
  dsimp only at h3 h4 h5 ⊢
  haveI : Len32 c := ⟨h5⟩
  repeat' (first | with_reducible apply Stp.go | with_reducible refine imp fun _ => ?_ | (with_reducible refine hyp ?_ ?_; first | assumption | exact leftT_mem (by assumption)) | (with_reducible refine need ?_ ?_; first | trivial | omega | exact ⟨by assumption, by omega⟩ | (simp only [List.length_append, List.length_cons, List.length_nil, List.length_map, List.length_take, List.length_drop, List.length_replicate, List.length_set]; omega)) | (with_reducible refine fact ?_ ?_; first | trivial | exact ⟨rfl, rfl⟩ | kernel_rfl) | with_reducible refine choT (by assumption) ?_ | with_reducible refine choF (by assumption) ?_ | with_reducible refine choF' (by assumption) ?_ | (with_reducible refine altT ?_ ?_; first | omega | (simp only [List.length_append, List.length_cons, List.length_nil, List.length_map, List.length_take, List.length_drop, List.length_replicate, List.length_set]; omega)) | with_reducible refine altF ?_ | with_reducible refine all fun _ => ?_ | with_reducible refine both ?_ ?_ | (with_reducible refine choT ?_ ?_; omega) | (with_reducible refine choF ?_ ?_; omega) | with_reducible refine cho (fun _ => ?_) (fun _ => ?_))
  · rename_i h6 h7 _ v'
    generalize he : (⟨(cutE 130 1030 (l.getD i default)).key, (cutE 130 1030 (l.getD i default)).val, (cutE 130 1030 (l.getD i default)).del, ((i + 1 : Nat) : Int)⟩ : En) = e0
    exact again (i + 1, v', putL n s e0, putS n s e0, putC n s c e0) (by dsimp only; omega) ⟨by dsimp only; omega, putI h4, Len32.len⟩ (Sub.drop_ (List.sublist_append_left _ _) _)
  all_goals
    refine joinI (β := List UInt8 × List UInt8) (fun x => lt x.2 x.1 = false) (fun x => [S x.1, S x.2, ptrAt b 0]) (fun _ => memS b v n s c) ?_ ?_
    · repeat' (first | with_reducible apply Stp.go | with_reducible refine imp fun _ => ?_ | (with_reducible refine hyp ?_ ?_; first | assumption | exact leftT_mem (by assumption)) | (with_reducible refine need ?_ ?_; first | trivial | omega | exact ⟨by assumption, by omega⟩ | (simp only [List.length_append, List.length_cons, List.length_nil, List.length_map, List.length_take, List.length_drop, List.length_replicate, List.length_set]; omega)) | (with_reducible refine fact ?_ ?_; first | trivial | exact ⟨rfl, rfl⟩ | kernel_rfl) | with_reducible refine choT (by assumption) ?_ | with_reducible refine choF (by assumption) ?_ | with_reducible refine choF' (by assumption) ?_ | (with_reducible refine altT ?_ ?_; first | omega | (simp only [List.length_append, List.length_cons, List.length_nil, List.length_map, List.length_take, List.length_drop, List.length_replicate, List.length_set]; omega)) | with_reducible refine altF ?_ | with_reducible refine all fun _ => ?_ | with_reducible refine both ?_ ?_ | (with_reducible refine choT ?_ ?_; omega) | (with_reducible refine choF ?_ ?_; omega) | with_reducible refine cho (fun _ => ?_) (fun _ => ?_))
      · rename_i h9
        refine meet (lo, hi) ?_ (Sub.refl _ _)
        dsimp only
        simp only [Bool.or_eq_true, decide_eq_true_eq] at h9
        rcases h9 with h9 | rfl
        · exact lt_asymm h9
        · exact lt_irrefl _
      · rename_i h9
        refine meet (hi, lo) ?_ (Sub.refl _ _)
        dsimp only
        simp only [Bool.or_eq_true, not_or, Bool.not_eq_true] at h9
        exact h9.1
    · rintro ⟨x, y⟩ h8
      dsimp only at h8 ⊢
      have h64 := h4.2.2
      have b1 := rangeL_le n [] x
      have b2 := rangeL_le n x y
      have b3 := rangeL_le n y []
      have b4 := rangeL_le n [] []
      have hs := (sorted_iff n).2 h4.1
      by_cases hx : x = []
      · repeat' (first | with_reducible apply Stp.go | with_reducible refine imp fun _ => ?_ | (with_reducible refine hyp ?_ ?_; first | assumption | exact leftT_mem (by assumption)) | (with_reducible refine need ?_ ?_; first | trivial | omega | exact ⟨by assumption, by omega⟩ | (simp only [List.length_append, List.length_cons, List.length_nil, List.length_map, List.length_take, List.length_drop, List.length_replicate, List.length_set]; omega)) | (with_reducible refine fact ?_ ?_; first | trivial | exact ⟨rfl, rfl⟩ | kernel_rfl) | with_reducible refine choT (by assumption) ?_ | with_reducible refine choF (by assumption) ?_ | with_reducible refine choF' (by assumption) ?_ | (with_reducible refine altT ?_ ?_; first | omega | (simp only [List.length_append, List.length_cons, List.length_nil, List.length_map, List.length_take, List.length_drop, List.length_replicate, List.length_set]; omega)) | with_reducible refine altF ?_ | with_reducible refine all fun _ => ?_ | with_reducible refine both ?_ ?_ | (with_reducible refine choT ?_ ?_; omega) | (with_reducible refine choF ?_ ?_; omega) | with_reducible refine cho (fun _ => ?_) (fun _ => ?_))
        refine ⟨_, _, _, rfl, Sub.app_nil _, ?_, rfl⟩
        rw [rangeL_all, decide_eq_true rfl]
      · have hn : [] ++ rangeL n [] x ++ rangeL n x y ++ rangeL n y [] = n := by rw [List.nil_append]; exact rangeL_parts hx h8
        repeat' (first | with_reducible apply Stp.go | with_reducible refine imp fun _ => ?_ | (with_reducible refine hyp ?_ ?_; first | assumption | exact leftT_mem (by assumption)) | (with_reducible refine need ?_ ?_; first | trivial | omega | exact ⟨by assumption, by omega⟩ | (simp only [List.length_append, List.length_cons, List.length_nil, List.length_map, List.length_take, List.length_drop, List.length_replicate, List.length_set]; omega)) | (with_reducible refine fact ?_ ?_; first | trivial | exact ⟨rfl, rfl⟩ | kernel_rfl) | with_reducible refine choT (by assumption) ?_ | with_reducible refine choF (by assumption) ?_ | with_reducible refine choF' (by assumption) ?_ | (with_reducible refine altT ?_ ?_; first | omega | (simp only [List.length_append, List.length_cons, List.length_nil, List.length_map, List.length_take, List.length_drop, List.length_replicate, List.length_set]; omega)) | with_reducible refine altF ?_ | with_reducible refine all fun _ => ?_ | with_reducible refine both ?_ ?_ | (with_reducible refine choT ?_ ?_; omega) | (with_reducible refine choF ?_ ?_; omega) | with_reducible refine cho (fun _ => ?_) (fun _ => ?_))
        refine ⟨_, _, _, rfl, Sub.app_nil _, ?_, rfl⟩
        rw [hn, hs]
end Go.Ab
