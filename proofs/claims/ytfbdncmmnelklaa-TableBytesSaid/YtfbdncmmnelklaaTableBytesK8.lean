/- The texts that this claim needs, part 8: a logic over abstract values, its steps, what the functions do. No condition of its own. -/
import Derived.Shelf.SlSortCmp.NoneTotal
import Derived.Test.YtfbdncmmnelklaaTableBytesK7
/- slices.SortFunc at entries: from the kit's contract to a call told of abstract states. -/
set_option linter.unusedVariables false
set_option linter.unusedSimpArgs false
namespace Go.Ab
open Go.Proofs Go.Shelf Go.RowKit Go.Lib Go.Sort
/-- An entry's cells. -/
def enc (e : En) : List Value := [.string ⟨e.key.toArray⟩, .string ⟨e.val.toArray⟩, .bool e.del, .int .i64 e.seq]
end Go.Ab

/- The code's fold. -/
set_option linter.unusedVariables false
set_option linter.unusedSimpArgs false
namespace Go.Ab
def entry_Fold.mark : Mark := ⟨fun t => false, fun t => false, fun t => false, fun t => Nat.beq t 17, fun t => Nat.beq t 40⟩
def entry_Fold.ann : Ann := ⟨fun n => bif Nat.beq n 3 then [3, 12, 13, 14] else bif Nat.beq n 11 then [8, 43] else [], fun n => none, fun n => none⟩
end Go.Ab

/- Layer 11: few entries; those that are right, folded. -/
set_option linter.unusedVariables false
set_option linter.unusedSimpArgs false
namespace Go.Ab
def law11_few.mark : Mark := ⟨fun t => false, fun t => false, fun t => false, fun t => Nat.beq t 22, fun t => false⟩
def law11_few.ann : Ann := ⟨fun n => bif Nat.beq n 3 then [0, 1, 5, 6] else [], fun n => none, fun n => none⟩
/-- 'marlstone/marlstonelaw11.few' -/
def law11_few.sh (a0 a1 : AV) (σ : Store) (Q : AEnd → Store → Prop) : Prop :=
  aLoop (fun go vs σ =>
    At vs 0 fun s0 => At vs 1 fun s1 => At vs 2 fun s5 => At vs 3 fun s6 => Do (aBuiltin Go.Proofs.Try.prog .len #[22] [s0]) fun t10 =>
    Do (aBin Go.Proofs.Try.prog .lss 3 s6 t10) fun t11 =>
    Do (aGuard t11 true (aIs s6)) fun t13 =>
    Do (aGuard t11 true (aIs s1)) fun t14 =>
    Do (aGuard t11 true (aBin Go.Proofs.Try.prog .lss 3 t13 t14)) fun t15 =>
    Do (aPick t11 t15 (.val (.bool false))) fun t16 =>
    aCond t16
      (Do (aIndexAddr .slice 4 s0 s6) fun t21 =>
    Do (loadF true 4 t21) fun t22 =>
    aNewVar 52 [.val (.string ⟨#[]⟩), .val (.string ⟨#[]⟩), .val (.bool false), .val (.int .i64 0)] σ fun t7 σ_1 =>
    storeA 4 t7 t22 σ_1 fun u σ_2 =>
    Do (aFieldAddr 0 1 t7) fun t23 =>
    Do (loadA false 1 t23 σ_2) fun t24 =>
    Do (aFieldAddr 0 1 t7) fun t25 =>
    Do (loadA false 1 t25 σ_2) fun t26 =>
    Do (aBuiltin Go.Proofs.Try.prog .len #[9] [t26]) fun t27 =>
    Do (aBuiltin Go.Proofs.Try.prog .min #[3, 3] [t27, (.val (.int .i64 130))]) fun t28 =>
    Do (aSlice .string 1 t24 none (some t28) none) fun t29 =>
    Do (aFieldAddr 0 1 t7) fun t30 =>
    storeA 1 t30 t29 σ_2 fun u_1 σ_3 =>
    Do (aFieldAddr 1 1 t7) fun t31 =>
    Do (loadA false 1 t31 σ_3) fun t32 =>
    Do (aFieldAddr 1 1 t7) fun t33 =>
    Do (loadA false 1 t33 σ_3) fun t34 =>
    Do (aBuiltin Go.Proofs.Try.prog .len #[9] [t34]) fun t35 =>
    Do (aBuiltin Go.Proofs.Try.prog .min #[3, 3] [t35, (.val (.int .i64 1030))]) fun t36 =>
    Do (aSlice .string 1 t32 none (some t36) none) fun t37 =>
    Do (aFieldAddr 1 1 t7) fun t38 =>
    storeA 1 t38 t37 σ_3 fun u_2 σ_4 =>
    Do (loadA true 4 t7 σ_4) fun t40 =>
    Do (aSlLit (mkE [.val (.string ⟨#[]⟩), .val (.string ⟨#[]⟩), .val (.bool false), .val (.int .i64 0)]) 4 1 [(0, t40)]) fun t41 =>
    aAppend 52 4 48 s5 t41 σ_4 (subK fun t42 σ_5 =>
    Do (aBin Go.Proofs.Try.prog .add 3 s6 (.val (.int .i64 1))) fun t18 =>
    go [s0, s1, t42, t18] σ_5))
      (Q (.ret s5) σ))
    [a0, a1, (.val (.slice none 0 0)), (.val (.int .i64 0))] σ
theorem law11_few.eq (a0 a1 : AV) (σ : Store) (Q : AEnd → Store → Prop) : vc (semOf Go.Proofs.Try.prog law11_few.mark) Go.Proofs.Try.f12.ntmps law11_few.ann (bodyOf Go.Proofs.Try.f12) (endK [.tmp 4] Q) (argFr [a0, a1]) σ = law11_few.sh a0 a1 σ Q := by kernel_rfl
theorem law11_few.go {a0 a1 : AV} {σ : Store} {Q : AEnd → Store → Prop} (h : law11_few.sh a0 a1 σ Q) : ACalls Go.Proofs.Try.prog 12 [a0, a1] σ Q :=
  acalls_of_eq [.tmp 4] Go.Proofs.Try.func12 (by kernel_rfl) (by kernel_rfl) (by kernel_rfl) (by kernel_rfl) (law11_few.eq a0 a1 σ Q) h
def law11_fit.mark : Mark := ⟨fun t => Nat.beq t 7 || Nat.beq t 8 || Nat.beq t 24, fun t => false, fun t => false, fun t => Nat.beq t 23 || Nat.beq t 29, fun t => false⟩
def law11_fit.ann : Ann := ⟨fun n => bif Nat.beq n 4 then [3, 4, 5] else [], fun n => none, fun n => none⟩
theorem few11_ok (l : List En) (m : SM) (k : Nat) (hl : l.length ≤ 100000000000000) (hk : k ≤ 1000) : aPure Go.Proofs.Try.prog 12 [.lst 4 (l.map En.av) m, I .i64 (k : Nat)] (.lst 4 (((l.take k).map (cutE 130 1030)).map En.av) .ro) := by
  refine ACalls.fin (law11_few.go ?_)
  unfold law11_few.sh
  repeat' (first | with_reducible apply Stp.go | with_reducible refine imp fun _ => ?_ | (with_reducible refine hyp ?_ ?_; first | assumption | exact leftT_mem (by assumption)) | (with_reducible refine need ?_ ?_; first | trivial | omega | exact ⟨by assumption, by omega⟩ | (simp only [List.length_append, List.length_cons, List.length_nil, List.length_map, List.length_take, List.length_drop, List.length_replicate, List.length_set]; omega)) | (with_reducible refine fact ?_ ?_; first | trivial | exact ⟨rfl, rfl⟩ | kernel_rfl) | with_reducible refine choT (by assumption) ?_ | with_reducible refine choF (by assumption) ?_ | with_reducible refine choF' (by assumption) ?_ | (with_reducible refine altT ?_ ?_; first | omega | (simp only [List.length_append, List.length_cons, List.length_nil, List.length_map, List.length_take, List.length_drop, List.length_replicate, List.length_set]; omega)) | with_reducible refine altF ?_ | with_reducible refine all fun _ => ?_ | with_reducible refine both ?_ ?_ | (with_reducible refine choT ?_ ?_; omega) | (with_reducible refine choF ?_ ?_; omega) | with_reducible refine cho (fun _ => ?_) (fun _ => ?_))
  refine loopI (β := Nat × Value) (fun x => x.1 ≤ l.length ∧ x.1 ≤ k) (fun x => [.lst 4 (l.map En.av) m, I .i64 (k : Nat), .own x.2 x.1, I .i64 (x.1 : Nat)]) (fun x => [.row x.2 52 4 (((l.take x.1).map (cutE 130 1030)).map En.av) 0]) (fun x => k - x.1) (0, _) ⟨Nat.zero_le _, Nat.zero_le _⟩ (Sub.nil_own 52 (by decide) _ [_, _] [_]) ?_
  rintro ⟨i, v⟩ ⟨h1, h2⟩
  dsimp only at h1 h2 ⊢
  repeat' (first | with_reducible apply Stp.go | with_reducible refine imp fun _ => ?_ | (with_reducible refine hyp ?_ ?_; first | assumption | exact leftT_mem (by assumption)) | (with_reducible refine need ?_ ?_; first | trivial | omega | exact ⟨by assumption, by omega⟩ | (simp only [List.length_append, List.length_cons, List.length_nil, List.length_map, List.length_take, List.length_drop, List.length_replicate, List.length_set]; omega)) | (with_reducible refine fact ?_ ?_; first | trivial | exact ⟨rfl, rfl⟩ | kernel_rfl) | with_reducible refine choT (by assumption) ?_ | with_reducible refine choF (by assumption) ?_ | with_reducible refine choF' (by assumption) ?_ | (with_reducible refine altT ?_ ?_; first | omega | (simp only [List.length_append, List.length_cons, List.length_nil, List.length_map, List.length_take, List.length_drop, List.length_replicate, List.length_set]; omega)) | with_reducible refine altF ?_ | with_reducible refine all fun _ => ?_ | with_reducible refine both ?_ ?_ | (with_reducible refine choT ?_ ?_; omega) | (with_reducible refine choF ?_ ?_; omega) | with_reducible refine cho (fun _ => ?_) (fun _ => ?_))
  · rename_i w
    refine again (i + 1, w) (by dsimp only; omega) ⟨by dsimp only; omega, by dsimp only; omega⟩ ?_
    have e : (l.take (i + 1)).map (cutE 130 1030) = (l.take i).map (cutE 130 1030) ++ [cutE 130 1030 (l.getD i default)] := by rw [take_succ_d (by omega), List.map_append]; rfl
    have en : ((l.take i).map (cutE 130 1030)).length = i := by simp; omega
    dsimp only
    rw [e, List.length_append, en, take_minN, take_minN]
    exact Sub.drop_ (List.sublist_cons_self _ _) _
  · have e : i = min l.length k := by omega
    refine ⟨_, _, _, rfl, retOwn (Sub.refl _ _), ?_, rfl⟩
    rw [e, take_minN]
  · have e : i = min l.length k := by omega
    refine ⟨_, _, _, rfl, retOwn (Sub.refl _ _), ?_, rfl⟩
    rw [e, take_minN]
end Go.Ab
