/- The reference's fold. -/
import Derived.Test.YtcpbjmhhhdoafaaF7
import Derived.Test.YtcpbjmhhhdoafaaB4
set_option linter.unusedVariables false
set_option linter.unusedSimpArgs false
namespace Go.Ab
def ref03_Fold.mark : Mark := ⟨fun t => false, fun t => Nat.beq t 42, fun t => false, fun t => false, fun t => Nat.beq t 20⟩
def ref03_Fold.ann : Ann := ⟨fun n => bif Nat.beq n 3 then [0, 3, 4] else [], fun n => none, fun n => bif Nat.beq n 9 then some [0, 3, 4] else none⟩
/-- 'marlstone/marlstoneref03.Fold' -/
def ref03_Fold.sh (a0 : AV) (σ : Store) (Q : AEnd → Store → Prop) : Prop :=
  aLoop (fun go vs σ =>
    At vs 0 fun s0 => At vs 1 fun s3 => At vs 2 fun s4 => Do (aBuiltin Go.Proofs.Try.prog .len #[39] [s0]) fun t9 =>
    Do (aBin Go.Proofs.Try.prog .lss 3 s4 t9) fun t10 =>
    aCond t10
      (Do (aIndexAddr .slice 4 s0 s4) fun t17 =>
    Do (aFieldAddr 0 1 t17) fun t18 =>
    Do (loadA false 1 t18 σ) fun t19 =>
    Do (lookC Go.Proofs.Try.prog 36 [s3, t19] σ) fun t20 =>
    Do (aExt t20 0) fun t21 =>
    Do (aExt t20 1) fun t22 =>
    aCond t22
      (Do (aIndexAddr .slice 4 s0 s4) fun t26 =>
      Do (aFieldAddr 3 1 t26) fun t27 =>
      Do (loadA false 1 t27 σ) fun t28 =>
      Do (aIndexAddr .slice 4 s3 t21) fun t31 =>
      Do (aFieldAddr 3 1 t31) fun t32 =>
      Do (loadA false 1 t32 σ) fun t33 =>
      Do (aBin Go.Proofs.Try.prog .geq 3 t28 t33) fun t34 =>
      aCond t34
        (Do (aIndexAddr .slice 4 s0 s4) fun t39 =>
        Do (loadA true 4 t39 σ) fun t40 =>
        Do (aIndexAddr .slice 4 s3 t21) fun t41 =>
        storeA 4 t41 t40 σ fun u σ_1 =>
        Do (aBin Go.Proofs.Try.prog .add 3 s4 (.val (.int .i64 1))) fun t12 =>
    go [s0, s3, t12] σ_1)
        (Do (aBin Go.Proofs.Try.prog .add 3 s4 (.val (.int .i64 1))) fun t12_1 =>
    go [s0, s3, t12_1] σ))
      (aJoin (fun j =>
      Do (aSlice .slice 4 s3 none (some t21) none) fun t45 =>
      Do (aIndexAddr .slice 4 s0 s4) fun t49 =>
      Do (aSlice .slice 4 s3 (some t21) none none) fun t55 =>
      Both (aRowL 29 (mkE [.val (.string ⟨#[]⟩), .val (.string ⟨#[]⟩), .val (.bool false), .val (.int .i64 0)]) 4 0 [] σ fun t42 σ_3 =>
      Both (aAppend 29 4 48 t42 t45 σ_3 (subK fun t46 σ_4 =>
      Do (loadA true 4 t49 σ_4) fun t50 =>
      Do (aSlLit (mkE [.val (.string ⟨#[]⟩), .val (.string ⟨#[]⟩), .val (.bool false), .val (.int .i64 0)]) 4 1 [(0, t50)]) fun t51 =>
      aAppend 29 4 48 t46 t51 σ_4 (subK fun t52 σ_5 =>
      aAppend 29 4 48 t52 t55 σ_5 (subK fun t56 σ_6 =>
      j [s0, t56, s4] σ_6)))) (Do (loadA true 4 t49 σ_3) fun t50_1 =>
      Do (aSlLit (mkE [.val (.string ⟨#[]⟩), .val (.string ⟨#[]⟩), .val (.bool false), .val (.int .i64 0)]) 4 1 [(0, t50_1)]) fun t51_1 =>
      aAppend 29 4 48 t42 t45 σ_3 (subK fun t46_1 σ_7 =>
      aAppend 29 4 48 t46_1 t51_1 σ_7 (subK fun t52_1 σ_8 =>
      aAppend 29 4 48 t52_1 t55 σ_8 (subK fun t56_1 σ_9 =>
      j [s0, t56_1, s4] σ_9))))) (Do (loadA true 4 t49 σ) fun t50_2 =>
      Do (aSlLit (mkE [.val (.string ⟨#[]⟩), .val (.string ⟨#[]⟩), .val (.bool false), .val (.int .i64 0)]) 4 1 [(0, t50_2)]) fun t51_2 =>
      aRowL 29 (mkE [.val (.string ⟨#[]⟩), .val (.string ⟨#[]⟩), .val (.bool false), .val (.int .i64 0)]) 4 0 [] σ fun t42_1 σ_10 =>
      aAppend 29 4 48 t42_1 t45 σ_10 (subK fun t46_2 σ_11 =>
      aAppend 29 4 48 t46_2 t51_2 σ_11 (subK fun t52_2 σ_12 =>
      aAppend 29 4 48 t52_2 t55 σ_12 (subK fun t56_2 σ_13 =>
      j [s0, t56_2, s4] σ_13))))) fun vs_1 σ_2 =>
    At vs_1 0 fun s0_1 => At vs_1 1 fun s3_1 => At vs_1 2 fun s4_1 => Do (aBin Go.Proofs.Try.prog .add 3 s4_1 (.val (.int .i64 1))) fun t12_2 =>
    go [s0_1, s3_1, t12_2] σ_2))
      (Q (.ret s3) σ))
    [a0, (.val (.slice none 0 0)), (.val (.int .i64 0))] σ
theorem ref03_Fold.eq (a0 : AV) (σ : Store) (Q : AEnd → Store → Prop) : vc (semOf Go.Proofs.Try.prog ref03_Fold.mark) Go.Proofs.Try.f35.ntmps ref03_Fold.ann (bodyOf Go.Proofs.Try.f35) (endK [.tmp 2] Q) (argFr [a0]) σ = ref03_Fold.sh a0 σ Q := by kernel_rfl
theorem ref03_Fold.go {a0 : AV} {σ : Store} {Q : AEnd → Store → Prop} (h : ref03_Fold.sh a0 σ Q) : ACalls Go.Proofs.Try.prog 35 [a0] σ Q :=
  acalls_of_eq [.tmp 2] Go.Proofs.Try.func35 (by kernel_rfl) (by kernel_rfl) (by kernel_rfl) (by kernel_rfl) (ref03_Fold.eq a0 σ Q) h
theorem foldE_take_succ {l : List En} {i : Nat} (h : i < l.length) : foldE (l.take (i + 1)) = putE (l.getD i default) (foldE (l.take i)) := by rw [take_succ_d h, foldE_snoc]
theorem ref03_Fold_ok (l : List En) (m : SM) (hl : l.length ≤ 1000000000) : aPure Go.Proofs.Try.prog 35 [.lst 4 (l.map En.av) m] (.lst 4 ((foldE l).map En.av) .ro) := by
  refine ACalls.fin (ref03_Fold.go ?_)
  unfold ref03_Fold.sh
  repeat' (first | with_reducible apply Stp.go | with_reducible refine imp fun _ => ?_ | (with_reducible refine hyp ?_ ?_; first | assumption | exact leftT_mem (by assumption)) | (with_reducible refine need ?_ ?_; first | trivial | omega | exact ⟨by assumption, by omega⟩ | (simp only [List.length_append, List.length_cons, List.length_nil, List.length_map, List.length_take, List.length_drop, List.length_replicate, List.length_set]; omega)) | (with_reducible refine fact ?_ ?_; first | trivial | exact ⟨rfl, rfl⟩ | kernel_rfl) | with_reducible refine choT (by assumption) ?_ | with_reducible refine choF (by assumption) ?_ | with_reducible refine choF' (by assumption) ?_ | (with_reducible refine altT ?_ ?_; first | omega | (simp only [List.length_append, List.length_cons, List.length_nil, List.length_map, List.length_take, List.length_drop, List.length_replicate, List.length_set]; omega)) | with_reducible refine altF ?_ | with_reducible refine all fun _ => ?_ | with_reducible refine both ?_ ?_ | (with_reducible refine choT ?_ ?_; omega) | (with_reducible refine choF ?_ ?_; omega) | with_reducible refine cho (fun _ => ?_) (fun _ => ?_))
  refine loopI (β := Nat × Value) (fun x => x.1 ≤ l.length) (fun x => [.lst 4 (l.map En.av) m, .own x.2 (foldE (l.take x.1)).length, I .i64 (x.1 : Nat)])
    (fun x => [.row x.2 29 4 ((foldE (l.take x.1)).map En.av) 0]) (fun x => l.length - x.1) (0, .slice none 0 0) (Nat.zero_le _) (Sub.nil_own 29 (by decide) _ [_] [_]) ?_
  rintro ⟨i, v⟩ hi
  dsimp only at hi ⊢
  have hfl := foldE_length (l.take i)
  have htl : (l.take i).length = i := by rw [List.length_take]; omega
  by_cases hlt : i < l.length
  · have hp := putE_place (e := l.getD i default) (foldE_rises (l.take i))
    have hq := place_lt (k := (l.getD i default).key) (foldE_rises (l.take i))
    have hle := placeN_le (foldE (l.take i)) (l.getD i default).key
    rw [← foldE_take_succ hlt] at hp
    repeat' (first | with_reducible apply Stp.go | with_reducible refine imp fun _ => ?_ | (with_reducible refine hyp ?_ ?_; first | assumption | exact leftT_mem (by assumption)) | (with_reducible refine need ?_ ?_; first | trivial | omega | exact ⟨by assumption, by omega⟩ | (simp only [List.length_append, List.length_cons, List.length_nil, List.length_map, List.length_take, List.length_drop, List.length_replicate, List.length_set]; omega)) | (with_reducible refine fact ?_ ?_; first | trivial | exact ⟨rfl, rfl⟩ | kernel_rfl) | with_reducible refine choT (by assumption) ?_ | with_reducible refine choF (by assumption) ?_ | with_reducible refine choF' (by assumption) ?_ | (with_reducible refine altT ?_ ?_; first | omega | (simp only [List.length_append, List.length_cons, List.length_nil, List.length_map, List.length_take, List.length_drop, List.length_replicate, List.length_set]; omega)) | with_reducible refine altF ?_ | with_reducible refine all fun _ => ?_ | with_reducible refine both ?_ ?_ | (with_reducible refine choT ?_ ?_; omega) | (with_reducible refine choF ?_ ?_; omega) | with_reducible refine cho (fun _ => ?_) (fun _ => ?_))
    · rename_i hk
      obtain ⟨hq1, hq2⟩ := hq hk
      rw [if_pos hk] at hp
      repeat' (first | with_reducible apply Stp.go | with_reducible refine imp fun _ => ?_ | (with_reducible refine hyp ?_ ?_; first | assumption | exact leftT_mem (by assumption)) | (with_reducible refine need ?_ ?_; first | trivial | omega | exact ⟨by assumption, by omega⟩ | (simp only [List.length_append, List.length_cons, List.length_nil, List.length_map, List.length_take, List.length_drop, List.length_replicate, List.length_set]; omega)) | (with_reducible refine fact ?_ ?_; first | trivial | exact ⟨rfl, rfl⟩ | kernel_rfl) | with_reducible refine choT (by assumption) ?_ | with_reducible refine choF (by assumption) ?_ | with_reducible refine choF' (by assumption) ?_ | (with_reducible refine altT ?_ ?_; first | omega | (simp only [List.length_append, List.length_cons, List.length_nil, List.length_map, List.length_take, List.length_drop, List.length_replicate, List.length_set]; omega)) | with_reducible refine altF ?_ | with_reducible refine all fun _ => ?_ | with_reducible refine both ?_ ?_ | (with_reducible refine choT ?_ ?_; omega) | (with_reducible refine choF ?_ ?_; omega) | with_reducible refine cho (fun _ => ?_) (fun _ => ?_))
      · rename_i hge
        rw [if_pos (by omega)] at hp
        refine again (i + 1, v) (by dsimp only; omega) (by dsimp only; omega) ?_
        dsimp only
        rw [hp, List.length_set]
        exact Sub.refl _ _
      · rename_i hge
        rw [if_neg (by omega)] at hp
        refine again (i + 1, v) (by dsimp only; omega) (by dsimp only; omega) ?_
        dsimp only
        rw [hp]
        exact Sub.refl _ _
    · rename_i hk
      rw [if_neg hk] at hp
      have hfin : (([] ++ ((foldE (l.take i)).drop 0).take (placeN (foldE (l.take i)) (l.getD i default).key)) ++ [l.getD i default]) ++ ((foldE (l.take i)).drop (placeN (foldE (l.take i)) (l.getD i default).key)).take ((foldE (l.take i)).length - placeN (foldE (l.take i)) (l.getD i default).key) = foldE (l.take (i + 1)) := by
        rw [hp, List.drop_zero, List.nil_append, List.append_assoc, ← List.length_drop, List.take_length, List.singleton_append]
      refine joinE ?_
      repeat' (first | with_reducible apply Stp.go | with_reducible refine imp fun _ => ?_ | (with_reducible refine hyp ?_ ?_; first | assumption | exact leftT_mem (by assumption)) | (with_reducible refine need ?_ ?_; first | trivial | omega | exact ⟨by assumption, by omega⟩ | (simp only [List.length_append, List.length_cons, List.length_nil, List.length_map, List.length_take, List.length_drop, List.length_replicate, List.length_set]; omega)) | (with_reducible refine fact ?_ ?_; first | trivial | exact ⟨rfl, rfl⟩ | kernel_rfl) | with_reducible refine choT (by assumption) ?_ | with_reducible refine choF (by assumption) ?_ | with_reducible refine choF' (by assumption) ?_ | (with_reducible refine altT ?_ ?_; first | omega | (simp only [List.length_append, List.length_cons, List.length_nil, List.length_map, List.length_take, List.length_drop, List.length_replicate, List.length_set]; omega)) | with_reducible refine altF ?_ | with_reducible refine all fun _ => ?_ | with_reducible refine both ?_ ?_ | (with_reducible refine choT ?_ ?_; omega) | (with_reducible refine choF ?_ ?_; omega) | with_reducible refine cho (fun _ => ?_) (fun _ => ?_))
      all_goals
        rename_i w
        refine again (i + 1, w) (by dsimp only; omega) (by dsimp only; omega) ?_
        dsimp only
        rw [hfin]
        exact subS _
  · have e : l.take i = l := List.take_of_length_le (by omega)
    rw [e]
    repeat' (first | with_reducible apply Stp.go | with_reducible refine imp fun _ => ?_ | (with_reducible refine hyp ?_ ?_; first | assumption | exact leftT_mem (by assumption)) | (with_reducible refine need ?_ ?_; first | trivial | omega | exact ⟨by assumption, by omega⟩ | (simp only [List.length_append, List.length_cons, List.length_nil, List.length_map, List.length_take, List.length_drop, List.length_replicate, List.length_set]; omega)) | (with_reducible refine fact ?_ ?_; first | trivial | exact ⟨rfl, rfl⟩ | kernel_rfl) | with_reducible refine choT (by assumption) ?_ | with_reducible refine choF (by assumption) ?_ | with_reducible refine choF' (by assumption) ?_ | (with_reducible refine altT ?_ ?_; first | omega | (simp only [List.length_append, List.length_cons, List.length_nil, List.length_map, List.length_take, List.length_drop, List.length_replicate, List.length_set]; omega)) | with_reducible refine altF ?_ | with_reducible refine all fun _ => ?_ | with_reducible refine both ?_ ?_ | (with_reducible refine choT ?_ ?_; omega) | (with_reducible refine choF ?_ ?_; omega) | with_reducible refine cho (fun _ => ?_) (fun _ => ?_))
    exact ⟨_, _, _, rfl, retOwn (Sub.refl _ _), rfl, rfl⟩
instance {a : AV} {l : List En} {m : SM} [h : IsL a En.av 4 l m] : PC Go.Proofs.Try.prog 35 [a] (l.length ≤ 1000000000) (.lst 4 ((foldE l).map En.av) .ro) := ⟨fun hl => ⟨[.lst 4 (l.map En.av) m], ⟨h.sub, trivial⟩, ref03_Fold_ok l m hl⟩⟩
end Go.Ab
