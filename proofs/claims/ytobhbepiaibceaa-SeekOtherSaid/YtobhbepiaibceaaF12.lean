/- DeleteFunc of an own row; what writes come to. -/
import Derived.Test.YtobhbepiaibceaaF11
set_option linter.unusedVariables false
set_option linter.unusedSimpArgs false
namespace Go.Ab
def slices_DeleteFunc.mark : Mark := ⟨fun t => false, fun t => false, fun t => false, fun t => false, fun t => Nat.beq t 10 || Nat.beq t 28⟩
def slices_DeleteFunc.ann : Ann := ⟨fun n => bif Nat.beq n 5 then [0, 1, 5, 6] else [], fun n => none, fun n => none⟩
/-- 'slices.DeleteFunc[[]marlstone/api.Entry,marlstone/api.Entry]' -/
def slices_DeleteFunc.sh (a0 a1 : AV) (σ : Store) (Q : AEnd → Store → Prop) : Prop :=
  Do (lookC Go.Proofs.Try.prog 96 [a0, a1] σ) fun t10 =>
  Do (aBin Go.Proofs.Try.prog .eql 3 t10 (.val (.int .i64 (-1)))) fun t12 =>
  aCond t12
    (Q (.ret a0) σ)
    (Do (aBin Go.Proofs.Try.prog .add 3 t10 (.val (.int .i64 1))) fun t15 =>
  aLoop (fun go vs σ =>
    At vs 0 fun s0 => At vs 1 fun s1 => At vs 2 fun s5 => At vs 3 fun s6 => Do (aBuiltin Go.Proofs.Try.prog .len #[22] [s0]) fun t18 =>
    Do (aBin Go.Proofs.Try.prog .lss 3 s6 t18) fun t19 =>
    aCond t19
      (Do (aIndexAddr .slice 4 s0 s6) fun t24 =>
    Do (loadA true 4 t24 σ) fun t25 =>
    aNewVar 54 [.val (.string ⟨#[]⟩), .val (.string ⟨#[]⟩), .val (.bool false), .val (.int .i64 0)] σ fun t7 σ_1 =>
    storeA 4 t7 t25 σ_1 fun u σ_2 =>
    Do (loadA true 4 t7 σ_2) fun t27 =>
    Do (lookV Go.Proofs.Try.prog s1 [t27] σ_2) fun t28 =>
    Do (aUn Go.Proofs.Try.prog .not t28) fun t29 =>
    aCond t29
      (Do (loadA true 4 t7 σ_2) fun t32 =>
      Do (aIndexAddr .slice 4 s0 s5) fun t33 =>
      storeA 4 t33 t32 σ_2 fun u_1 σ_3 =>
      Do (aBin Go.Proofs.Try.prog .add 3 s5 (.val (.int .i64 1))) fun t35 =>
      Do (aBin Go.Proofs.Try.prog .add 3 s6 (.val (.int .i64 1))) fun t21 =>
    go [s0, s1, t35, t21] σ_3)
      (Do (aBin Go.Proofs.Try.prog .add 3 s6 (.val (.int .i64 1))) fun t21_1 =>
    go [s0, s1, s5, t21_1] σ_2))
      (Do (aSlice .slice 4 s0 (some s5) none none) fun t38 =>
  aHook (eClear Go.Proofs.Try.prog 22 t38 σ) fun u_2 σ_4 =>
  Do (aSlice .slice 4 s0 none (some s5) none) fun t41 =>
  Q (.ret t41) σ_4))
    [a0, a1, t10, t15] σ)
theorem slices_DeleteFunc.eq (a0 a1 : AV) (σ : Store) (Q : AEnd → Store → Prop) : vc (semOf Go.Proofs.Try.prog slices_DeleteFunc.mark) Go.Proofs.Try.f55.ntmps slices_DeleteFunc.ann (bodyOf Go.Proofs.Try.f55) (endK [.tmp 4] Q) (argFr [a0, a1]) σ = slices_DeleteFunc.sh a0 a1 σ Q := by kernel_rfl
theorem slices_DeleteFunc.go {a0 a1 : AV} {σ : Store} {Q : AEnd → Store → Prop} (h : slices_DeleteFunc.sh a0 a1 σ Q) : ACalls Go.Proofs.Try.prog 55 [a0, a1] σ Q :=
  acalls_of_eq [.tmp 4] Go.Proofs.Try.func55 (by kernel_rfl) (by kernel_rfl) (by kernel_rfl) (by kernel_rfl) (slices_DeleteFunc.eq a0 a1 σ Q) h
instance : RowT Go.Proofs.Try.prog 22 54 [.string ⟨#[]⟩, .string ⟨#[]⟩, .bool false, .int .i64 0] 4 48 := ⟨by kernel_rfl⟩
/-- What is not taken away. -/
def mapE (l : List En) : List En := (foldE l).filter fun e => !e.del
theorem idx_cases (p : En → Bool) : ∀ l : List En, (idx p l = -1 ∧ l.filter (fun e => !p e) = l) ∨ ∃ i : Nat, idx p l = i ∧ i < l.length ∧ (l.take (i + 1)).filter (fun e => !p e) = l.take i
  | [] => .inl ⟨rfl, rfl⟩
  | a :: l => by
    by_cases ha : p a = true
    · refine .inr ⟨0, by simp [idx, ha], by simp, by simp [ha]⟩
    · rcases idx_cases p l with ⟨h1, h2⟩ | ⟨i, h1, h2, h3⟩
      · refine .inl ⟨by simp [idx, ha, h1], ?_⟩
        rw [List.filter_cons_of_pos (by simpa using ha), h2]
      · refine .inr ⟨i + 1, ?_, by simpa using h2, ?_⟩
        · simp only [idx, ha, Bool.false_eq_true, if_false, h1]
          rw [if_neg (by omega)]
          rfl
        · rw [List.take_succ_cons, List.filter_cons_of_pos (by simpa using ha), h3, List.take_succ_cons]
theorem Sub.own_sub {σ : Store} {v : Value} {n sz : Nat} {us us' : List AV} (h : Sub σ us σ us') : Sub σ (.own v n :: us) σ (.sub v sz 0 n :: us') := by
  refine Sub.trans (Sub.cons_same _ h) (Sub.vals ⟨fun R x hx => ?_, SubVs.refl _⟩)
  obtain ⟨rfl, hr⟩ := hx.own_inv
  refine .sub ?_
  rcases hr with ⟨rfl, rfl⟩ | ⟨g, cap, rfl, hle⟩
  · exact .inl ⟨rfl, rfl, rfl, rfl⟩
  · exact .inr ⟨g, n, cap, ⟨g, 0, none⟩, rfl, by omega, fun _ => by simp, rfl⟩
instance (priority := 40) predStep {g : AV} {p : En → Bool} [hg : Pred Go.Proofs.Try.prog g p] {e : En} {K : AV → Prop} : Stp (Do (aPureV Go.Proofs.Try.prog g [e.av]) K) (K (B (p e))) := ⟨fun hK => ⟨_, hg.pure e, hK⟩⟩
instance (priority := 40) predLook {g : AV} {p : En → Bool} [hg : Pred Go.Proofs.Try.prog g p] {e : En} {σ : Store} {K : AV → Prop} : Stp (Do (lookV Go.Proofs.Try.prog g [e.av] σ) K) (K (B (p e))) := ⟨fun hK => by
  obtain ⟨f, a, b, args1, h1, h2, h3⟩ := hg.h e
  refine ⟨_, ?_, hK⟩
  unfold lookV
  rw [h1]
  exact ⟨σ, args1, Sub.vals h2, h3, (inferInstance : Ground (B (p e))).g⟩⟩
theorem Delete_ok (g : AV) (p : En → Bool) (hg : Pred Go.Proofs.Try.prog g p) (l : List En) (v : Value) (hl : l.length ≤ 1000000000) : ACalls Go.Proofs.Try.prog 55 [.own v l.length, g] [.row v 54 4 (l.map En.av) 0]
    fun x σ' => ∃ l' : List En, (l'.length = l.length ∧ l'.take (l.filter fun e => !p e).length = l.filter fun e => !p e) ∧ x = .ret (.sub v 4 0 (l.filter fun e => !p e).length) ∧ σ' = [.row v 54 4 (l'.map En.av) 0] := by
  refine ACalls.fin (slices_DeleteFunc.go ?_)
  unfold slices_DeleteFunc.sh
  rcases idx_cases p l with ⟨h, hf⟩ | ⟨i0, h, hi0, hf⟩
  · repeat' (first | with_reducible apply Stp.go | with_reducible refine imp fun _ => ?_ | (with_reducible refine hyp ?_ ?_; first | assumption | exact leftT_mem (by assumption)) | (with_reducible refine need ?_ ?_; first | trivial | omega | exact ⟨by assumption, by omega⟩ | (simp only [List.length_append, List.length_cons, List.length_nil, List.length_map, List.length_take, List.length_drop, List.length_replicate, List.length_set]; omega)) | (with_reducible refine fact ?_ ?_; first | trivial | exact ⟨rfl, rfl⟩ | kernel_rfl) | with_reducible refine choT (by assumption) ?_ | with_reducible refine choF (by assumption) ?_ | with_reducible refine choF' (by assumption) ?_ | (with_reducible refine altT ?_ ?_; first | omega | (simp only [List.length_append, List.length_cons, List.length_nil, List.length_map, List.length_take, List.length_drop, List.length_replicate, List.length_set]; omega)) | with_reducible refine altF ?_ | with_reducible refine all fun _ => ?_ | with_reducible refine both ?_ ?_ | (with_reducible refine choT ?_ ?_; omega) | (with_reducible refine choF ?_ ?_; omega) | with_reducible refine cho (fun _ => ?_) (fun _ => ?_))
    · refine ⟨_, _, _, rfl, Sub.own_sub (sz := 4) (Sub.refl _ _), l, ⟨rfl, ?_⟩, ?_, rfl⟩
      · rw [hf, List.take_length]
      · rw [hf]
  · repeat' (first | with_reducible apply Stp.go | with_reducible refine imp fun _ => ?_ | (with_reducible refine hyp ?_ ?_; first | assumption | exact leftT_mem (by assumption)) | (with_reducible refine need ?_ ?_; first | trivial | omega | exact ⟨by assumption, by omega⟩ | (simp only [List.length_append, List.length_cons, List.length_nil, List.length_map, List.length_take, List.length_drop, List.length_replicate, List.length_set]; omega)) | (with_reducible refine fact ?_ ?_; first | trivial | exact ⟨rfl, rfl⟩ | kernel_rfl) | with_reducible refine choT (by assumption) ?_ | with_reducible refine choF (by assumption) ?_ | with_reducible refine choF' (by assumption) ?_ | (with_reducible refine altT ?_ ?_; first | omega | (simp only [List.length_append, List.length_cons, List.length_nil, List.length_map, List.length_take, List.length_drop, List.length_replicate, List.length_set]; omega)) | with_reducible refine altF ?_ | with_reducible refine all fun _ => ?_ | with_reducible refine both ?_ ?_ | (with_reducible refine choT ?_ ?_; omega) | (with_reducible refine choF ?_ ?_; omega) | with_reducible refine cho (fun _ => ?_) (fun _ => ?_))
    · rw [h]
      refine loopI (β := Nat × Nat × List En) (fun x => x.1 < x.2.1 ∧ x.2.1 ≤ l.length ∧ x.2.2.length = l.length ∧ x.2.2.drop x.2.1 = l.drop x.2.1 ∧ x.2.2.take x.1 = (l.take x.2.1).filter fun e => !p e)
        (fun x => [.own v l.length, g, I .i64 (x.1 : Nat), I .i64 (x.2.1 : Nat)]) (fun x => [.row v 54 4 (x.2.2.map En.av) 0]) (fun x => l.length - x.2.1) (i0, i0 + 1, l) ⟨by dsimp only; omega, by dsimp only; omega, rfl, rfl, hf.symm⟩ (Sub.refl _ _) ?_
      rintro ⟨i, j, l'⟩ ⟨h1, h2, h3, h4, h5⟩
      dsimp only at h1 h2 h3 h4 h5 ⊢
      by_cases hlt : j < l.length
      · have e1 : l'.getD j default = l.getD j default := by
          have := congrArg (fun x => x.getD 0 default) h4
          simpa [List.getD_eq_getElem?_getD, List.getElem?_drop] using this
        have e2 : (l.take (j + 1)).filter (fun e => !p e) = (l.take j).filter (fun e => !p e) ++ (if p (l.getD j default) = true then [] else [l.getD j default]) := by
          rw [take_succ_d hlt, List.filter_append]
          generalize l.getD j default = y
          cases hd : p y <;> simp [hd]
        have e3 : l'.drop (j + 1) = l.drop (j + 1) := by
          have := congrArg (List.drop 1) h4
          simpa [List.drop_drop] using this
        rw [← e1] at e2
        repeat' (first | with_reducible apply Stp.go | with_reducible refine imp fun _ => ?_ | (with_reducible refine hyp ?_ ?_; first | assumption | exact leftT_mem (by assumption)) | (with_reducible refine need ?_ ?_; first | trivial | omega | exact ⟨by assumption, by omega⟩ | (simp only [List.length_append, List.length_cons, List.length_nil, List.length_map, List.length_take, List.length_drop, List.length_replicate, List.length_set]; omega)) | (with_reducible refine fact ?_ ?_; first | trivial | exact ⟨rfl, rfl⟩ | kernel_rfl) | with_reducible refine choT (by assumption) ?_ | with_reducible refine choF (by assumption) ?_ | with_reducible refine choF' (by assumption) ?_ | (with_reducible refine altT ?_ ?_; first | omega | (simp only [List.length_append, List.length_cons, List.length_nil, List.length_map, List.length_take, List.length_drop, List.length_replicate, List.length_set]; omega)) | with_reducible refine altF ?_ | with_reducible refine all fun _ => ?_ | with_reducible refine both ?_ ?_ | (with_reducible refine choT ?_ ?_; omega) | (with_reducible refine choF ?_ ?_; omega) | with_reducible refine cho (fun _ => ?_) (fun _ => ?_))
        · rename_i hd
          refine again (i, j + 1, l') (by dsimp only; omega) ⟨by dsimp only; omega, by dsimp only; omega, h3, e3, ?_⟩ (subS _)
          rw [e2, if_pos hd, List.append_nil]
          exact h5
        · rename_i hd
          refine again (i + 1, j + 1, l'.set i (l'.getD j default)) (by dsimp only; omega) ⟨by dsimp only; omega, by dsimp only; omega, by simpa using h3, ?_, ?_⟩ (subS _)
          · dsimp only
            rw [List.drop_set, if_pos (by omega), e3]
          · dsimp only
            rw [e2, if_neg hd, ← h5, List.take_set, List.take_succ_eq_append_getElem (by omega), List.set_append]
            simp [List.length_take, Nat.min_eq_left (show i ≤ l'.length by omega)]
      · have hj : j = l.length := by omega
        subst hj
        rw [List.take_length] at h5
        have hi : (l.filter fun e => !p e).length = i := by rw [← h5]; simp; omega
        repeat' (first | with_reducible apply Stp.go | with_reducible refine imp fun _ => ?_ | (with_reducible refine hyp ?_ ?_; first | assumption | exact leftT_mem (by assumption)) | (with_reducible refine need ?_ ?_; first | trivial | omega | exact ⟨by assumption, by omega⟩ | (simp only [List.length_append, List.length_cons, List.length_nil, List.length_map, List.length_take, List.length_drop, List.length_replicate, List.length_set]; omega)) | (with_reducible refine fact ?_ ?_; first | trivial | exact ⟨rfl, rfl⟩ | kernel_rfl) | with_reducible refine choT (by assumption) ?_ | with_reducible refine choF (by assumption) ?_ | with_reducible refine choF' (by assumption) ?_ | (with_reducible refine altT ?_ ?_; first | omega | (simp only [List.length_append, List.length_cons, List.length_nil, List.length_map, List.length_take, List.length_drop, List.length_replicate, List.length_set]; omega)) | with_reducible refine altF ?_ | with_reducible refine all fun _ => ?_ | with_reducible refine both ?_ ?_ | (with_reducible refine choT ?_ ?_; omega) | (with_reducible refine choF ?_ ?_; omega) | with_reducible refine cho (fun _ => ?_) (fun _ => ?_))
        refine ⟨_, _, _, rfl, Sub.refl _ _, _, ⟨?_, ?_⟩, by rw [hi], rfl⟩
        · simp only [List.length_append, List.length_take, List.length_replicate, List.length_drop]
          omega
        · rw [hi, List.append_assoc, List.take_append_of_le_length (by simp; omega), List.take_take, Nat.min_self, h5]
instance {g : AV} {p : En → Bool} [hg : Pred Go.Proofs.Try.prog g p] {l : List En} {v : Value} {n : Nat} {σ : Store} : EQ Go.Proofs.Try.prog 55 [.own v n, g] (.row v 54 4 (l.map En.av) 0 :: σ) (n = l.length ∧ l.length ≤ 1000000000) (List En)
    (fun l' => l'.length = l.length ∧ l'.take (l.filter fun e => !p e).length = l.filter fun e => !p e) (fun _ => .sub v 4 0 (l.filter fun e => !p e).length) (fun l' => .row v 54 4 (l'.map En.av) 0 :: σ) := ⟨fun ⟨h1, h2⟩ => by
  subst h1
  exact ((Delete_ok g p hg l v h2).frame σ).mono fun x τ ⟨σ1, e1, _, y, e2, e3, e4⟩ => ⟨y, e2, e3, by rw [e1, e4]; rfl⟩⟩
end Go.Ab
