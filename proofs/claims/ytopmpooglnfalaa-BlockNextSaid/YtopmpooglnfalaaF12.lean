/- DeleteFunc of an own row; what writes come to. -/
import Derived.Test.YtopmpooglnfalaaF11
set_option linter.unusedVariables false
set_option linter.unusedSimpArgs false
namespace Go.Ab
def entry_Map_1.mark : Mark := ⟨fun t => false, fun t => false, fun t => Nat.beq t 1, fun t => Nat.beq t 4, fun t => false⟩
def entry_Map_1.ann : Ann := ⟨fun n => [], fun n => none, fun n => none⟩
/-- 'marlstone/entry.Map$1' -/
def entry_Map_1.sh (a0 : AV) (σ : Store) (Q : AEnd → Store → Prop) : Prop :=
  Do (aFreeze ((a0 : AV)).cells) fun t1 =>
  Do (aFieldAddr 2 1 t1) fun t3 =>
  Do (loadF false 1 t3) fun t4 =>
  Q (.ret t4) σ
theorem entry_Map_1.eq (a0 : AV) (σ : Store) (Q : AEnd → Store → Prop) : vc (semOf Go.Proofs.Try.prog entry_Map_1.mark) Go.Proofs.Try.f66.ntmps entry_Map_1.ann (bodyOf Go.Proofs.Try.f66) (endK [.tmp 2] Q) (argFr [a0]) σ = entry_Map_1.sh a0 σ Q := by kernel_rfl
theorem entry_Map_1.go {a0 : AV} {σ : Store} {Q : AEnd → Store → Prop} (h : entry_Map_1.sh a0 σ Q) : ACalls Go.Proofs.Try.prog 66 [a0] σ Q :=
  acalls_of_eq [.tmp 2] Go.Proofs.Try.func66 (by kernel_rfl) (by kernel_rfl) (by kernel_rfl) (by kernel_rfl) (entry_Map_1.eq a0 σ Q) h
def slices_DeleteFunc.mark : Mark := ⟨fun t => false, fun t => false, fun t => false, fun t => false, fun t => Nat.beq t 10 || Nat.beq t 28⟩
def slices_DeleteFunc.ann : Ann := ⟨fun n => bif Nat.beq n 5 then [0, 1, 5, 6] else [], fun n => none, fun n => none⟩
/-- 'slices.DeleteFunc[[]marlstone/api.Entry,marlstone/api.Entry]' -/
def slices_DeleteFunc.sh (a0 a1 : AV) (σ : Store) (Q : AEnd → Store → Prop) : Prop :=
  Do (lookC Go.Proofs.Try.prog 82 [a0, a1] σ) fun t10 =>
  Do (aBin Go.Proofs.Try.prog .eql 3 t10 (.val (.int .i64 (-1)))) fun t12 =>
  aCond t12
    (Q (.ret a0) σ)
    (Do (aBin Go.Proofs.Try.prog .add 3 t10 (.val (.int .i64 1))) fun t15 =>
  aLoop (fun go vs σ =>
    At vs 0 fun s0 => At vs 1 fun s1 => At vs 2 fun s5 => At vs 3 fun s6 => Do (aBuiltin Go.Proofs.Try.prog .len #[22] [s0]) fun t18 =>
    Do (aBin Go.Proofs.Try.prog .lss 3 s6 t18) fun t19 =>
    aCond t19
      (Do (aIndexAddr .slice 4 s0 s6) fun t24 =>
    Do (loadA true 4 t24 σ) fun t25 =>
    aNewVar 35 [.val (.string ⟨#[]⟩), .val (.string ⟨#[]⟩), .val (.bool false), .val (.int .i64 0)] σ fun t7 σ_1 =>
    storeA 4 t7 t25 σ_1 fun u σ_2 =>
    Do (loadA true 4 t7 σ_2) fun t27 =>
    Do (lookV Go.Proofs.Try.prog s1 [t27] σ_2) fun t28 =>
    Do (aUn Go.Proofs.Try.prog .not t28) fun t29 =>
    aCond t29
      (Do (loadA true 4 t7 σ_2) fun t32 =>
      Do (aIndexAddr .slice 4 s0 s5) fun t33 =>
      storeA 4 t33 t32 σ_2 fun u_1 σ_3 =>
      Do (aBin Go.Proofs.Try.prog .add 3 s5 (.val (.int .i64 1))) fun t35 =>
      Do (aBin Go.Proofs.Try.prog .add 3 s6 (.val (.int .i64 1))) fun t21 =>
    go [s0, s1, t35, t21] σ_3)
      (Do (aBin Go.Proofs.Try.prog .add 3 s6 (.val (.int .i64 1))) fun t21_1 =>
    go [s0, s1, s5, t21_1] σ_2))
      (Do (aSlice .slice 4 s0 (some s5) none none) fun t38 =>
  aHook (eClear Go.Proofs.Try.prog 22 t38 σ) fun u_2 σ_4 =>
  Do (aSlice .slice 4 s0 none (some s5) none) fun t41 =>
  Q (.ret t41) σ_4))
    [a0, a1, t10, t15] σ)
theorem slices_DeleteFunc.eq (a0 a1 : AV) (σ : Store) (Q : AEnd → Store → Prop) : vc (semOf Go.Proofs.Try.prog slices_DeleteFunc.mark) Go.Proofs.Try.f65.ntmps slices_DeleteFunc.ann (bodyOf Go.Proofs.Try.f65) (endK [.tmp 4] Q) (argFr [a0, a1]) σ = slices_DeleteFunc.sh a0 a1 σ Q := by kernel_rfl
theorem slices_DeleteFunc.go {a0 a1 : AV} {σ : Store} {Q : AEnd → Store → Prop} (h : slices_DeleteFunc.sh a0 a1 σ Q) : ACalls Go.Proofs.Try.prog 65 [a0, a1] σ Q :=
  acalls_of_eq [.tmp 4] Go.Proofs.Try.func65 (by kernel_rfl) (by kernel_rfl) (by kernel_rfl) (by kernel_rfl) (slices_DeleteFunc.eq a0 a1 σ Q) h
def entry_Map.mark : Mark := ⟨fun t => false, fun t => false, fun t => false, fun t => false, fun t => false⟩
def entry_Map.ann : Ann := ⟨fun n => [], fun n => none, fun n => none⟩
/-- 'marlstone/entry.Map' -/
def entry_Map.sh (a0 : AV) (σ : Store) (Q : AEnd → Store → Prop) : Prop :=
  aCall Go.Proofs.Try.prog 31 [a0] σ (fun t4 σ =>
  aCall Go.Proofs.Try.prog 65 [t4, (.val (.func (.func 66) #[] #[]))] σ (fun t5 σ_1 =>
  Q (.ret t5) σ_1) (fun e σ_2 => Q (.pan e) σ_2)) (fun e_1 σ_3 => Q (.pan e_1) σ_3)
theorem entry_Map.eq (a0 : AV) (σ : Store) (Q : AEnd → Store → Prop) : vc (semOf Go.Proofs.Try.prog entry_Map.mark) Go.Proofs.Try.f35.ntmps entry_Map.ann (bodyOf Go.Proofs.Try.f35) (endK [.tmp 2] Q) (argFr [a0]) σ = entry_Map.sh a0 σ Q := by kernel_rfl
theorem entry_Map.go {a0 : AV} {σ : Store} {Q : AEnd → Store → Prop} (h : entry_Map.sh a0 σ Q) : ACalls Go.Proofs.Try.prog 35 [a0] σ Q :=
  acalls_of_eq [.tmp 2] Go.Proofs.Try.func35 (by kernel_rfl) (by kernel_rfl) (by kernel_rfl) (by kernel_rfl) (entry_Map.eq a0 σ Q) h
def ref03_Map.mark : Mark := ⟨fun t => Nat.beq t 7, fun t => false, fun t => false, fun t => Nat.beq t 18 || Nat.beq t 24, fun t => false⟩
def ref03_Map.ann : Ann := ⟨fun n => bif Nat.beq n 4 then [3, 4, 5] else [], fun n => none, fun n => none⟩
/-- 'marlstone/marlstoneref03.Map' -/
def ref03_Map.sh (a0 : AV) (σ : Store) (Q : AEnd → Store → Prop) : Prop :=
  Do (aPureC Go.Proofs.Try.prog 34 [a0]) fun t7 =>
  aLoop (fun go vs σ =>
    At vs 0 fun s3 => At vs 1 fun s4 => At vs 2 fun s5 => Do (aBuiltin Go.Proofs.Try.prog .len #[22] [s4]) fun t10 =>
    Do (aBin Go.Proofs.Try.prog .lss 3 s5 t10) fun t11 =>
    aCond t11
      (Do (aIndexAddr .slice 4 s4 s5) fun t16 =>
    Do (aFieldAddr 2 1 t16) fun t17 =>
    Do (loadF false 1 t17) fun t18 =>
    Do (aUn Go.Proofs.Try.prog .not t18) fun t19 =>
    aCond t19
      (Do (aIndexAddr .slice 4 s4 s5) fun t23 =>
      Do (loadF true 4 t23) fun t24 =>
      Do (aSlLit (mkE [.val (.string ⟨#[]⟩), .val (.string ⟨#[]⟩), .val (.bool false), .val (.int .i64 0)]) 4 1 [(0, t24)]) fun t25 =>
      aAppend 35 4 48 s3 t25 σ (subK fun t26 σ_1 =>
      Do (aBin Go.Proofs.Try.prog .add 3 s5 (.val (.int .i64 1))) fun t13 =>
    go [t26, s4, t13] σ_1))
      (Do (aBin Go.Proofs.Try.prog .add 3 s5 (.val (.int .i64 1))) fun t13_1 =>
    go [s3, s4, t13_1] σ))
      (Q (.ret s3) σ))
    [(.val (.slice none 0 0)), t7, (.val (.int .i64 0))] σ
theorem ref03_Map.eq (a0 : AV) (σ : Store) (Q : AEnd → Store → Prop) : vc (semOf Go.Proofs.Try.prog ref03_Map.mark) Go.Proofs.Try.f36.ntmps ref03_Map.ann (bodyOf Go.Proofs.Try.f36) (endK [.tmp 2] Q) (argFr [a0]) σ = ref03_Map.sh a0 σ Q := by kernel_rfl
theorem ref03_Map.go {a0 : AV} {σ : Store} {Q : AEnd → Store → Prop} (h : ref03_Map.sh a0 σ Q) : ACalls Go.Proofs.Try.prog 36 [a0] σ Q :=
  acalls_of_eq [.tmp 2] Go.Proofs.Try.func36 (by kernel_rfl) (by kernel_rfl) (by kernel_rfl) (by kernel_rfl) (ref03_Map.eq a0 σ Q) h
theorem Map1_ok (e : En) : aPure Go.Proofs.Try.prog 66 [e.av] (B e.del) := by
  refine entry_Map_1.go ?_
  unfold entry_Map_1.sh
  repeat' (first | with_reducible apply Stp.go | with_reducible refine imp fun _ => ?_ | (with_reducible refine hyp ?_ ?_; first | assumption | exact leftT_mem (by assumption)) | (with_reducible refine need ?_ ?_; first | trivial | omega | (simp only [List.length_append, List.length_cons, List.length_nil, List.length_map, List.length_take, List.length_drop, List.length_replicate]; omega)) | (with_reducible refine fact ?_ ?_; first | trivial | exact ⟨rfl, rfl⟩ | kernel_rfl) | with_reducible refine choT (by assumption) ?_ | with_reducible refine choF (by assumption) ?_ | with_reducible refine choF' (by assumption) ?_ | (with_reducible refine altT ?_ ?_; first | omega | (simp only [List.length_append, List.length_cons, List.length_nil, List.length_map, List.length_take, List.length_drop, List.length_replicate]; omega)) | with_reducible refine altF ?_ | with_reducible refine all fun _ => ?_ | with_reducible refine both ?_ ?_ | (with_reducible refine choT ?_ ?_; omega) | (with_reducible refine choF ?_ ?_; omega) | with_reducible refine cho (fun _ => ?_) (fun _ => ?_))
  all_goals exact ⟨rfl, rfl⟩
instance {e : En} : PC Go.Proofs.Try.prog 66 [e.av] True (B e.del) := ⟨fun _ => PC.of (Map1_ok e)⟩
instance : RowT Go.Proofs.Try.prog 22 35 [.string ⟨#[]⟩, .string ⟨#[]⟩, .bool false, .int .i64 0] 4 48 := ⟨by kernel_rfl⟩
/-- What is not taken away. -/
def mapE (l : List En) : List En := (foldE l).filter fun e => !e.del
theorem idx_cases (p : En → Bool) : ∀ l : List En, (idx p l = -1 ∧ l.filter (fun e => !p e) = l) ∨ ∃ i : Nat, idx p l = i ∧ i < l.length ∧ (l.take (i + 1)).filter (fun e => !p e) = l.take i
  | [] => .inl ⟨rfl, rfl⟩
  | a :: l => by
    by_cases ha : p a = true
    · refine .inr ⟨0, by simp [idx, ha], by simp, by simp [ha]⟩
    · rcases idx_cases p l with ⟨h1, h2⟩ | ⟨i, h1, h2, h3⟩
      · refine .inl ⟨by simp [idx, ha, h1], ?_⟩
        rw [List.filter_cons_of_pos (by simpa using ha), h2]
      · refine .inr ⟨i + 1, ?_, by simpa using h2, ?_⟩
        · simp only [idx, ha, Bool.false_eq_true, if_false, h1]
          rw [if_neg (by omega)]
          rfl
        · rw [List.take_succ_cons, List.filter_cons_of_pos (by simpa using ha), h3, List.take_succ_cons]
theorem Sub.own_sub {σ : Store} {v : Value} {n sz : Nat} {us us' : List AV} (h : Sub σ us σ us') : Sub σ (.own v n :: us) σ (.sub v sz 0 n :: us') := by
  refine Sub.trans (Sub.cons_same _ h) (Sub.vals ⟨fun R x hx => ?_, SubVs.refl _⟩)
  obtain ⟨rfl, hr⟩ := hx.own_inv
  refine .sub ?_
  rcases hr with ⟨rfl, rfl⟩ | ⟨g, cap, rfl, hle⟩
  · exact .inl ⟨rfl, rfl, rfl, rfl⟩
  · exact .inr ⟨g, n, cap, ⟨g, 0, none⟩, rfl, by omega, fun _ => by simp, rfl⟩
theorem Delete_ok (l : List En) (v : Value) (hl : l.length ≤ 1000000000) : ACalls Go.Proofs.Try.prog 65 [.own v l.length, .val (.func (.func 66) #[] #[])] [.row v 35 4 (l.map En.av) 0]
    fun x σ' => ∃ l' : List En, (l'.length = l.length ∧ l'.take (l.filter fun e => !e.del).length = l.filter fun e => !e.del) ∧ x = .ret (.sub v 4 0 (l.filter fun e => !e.del).length) ∧ σ' = [.row v 35 4 (l'.map En.av) 0] := by
  refine ACalls.fin (slices_DeleteFunc.go ?_)
  unfold slices_DeleteFunc.sh
  rcases idx_cases En.del l with ⟨h, hf⟩ | ⟨i0, h, hi0, hf⟩
  · repeat' (first | with_reducible apply Stp.go | with_reducible refine imp fun _ => ?_ | (with_reducible refine hyp ?_ ?_; first | assumption | exact leftT_mem (by assumption)) | (with_reducible refine need ?_ ?_; first | trivial | omega | (simp only [List.length_append, List.length_cons, List.length_nil, List.length_map, List.length_take, List.length_drop, List.length_replicate]; omega)) | (with_reducible refine fact ?_ ?_; first | trivial | exact ⟨rfl, rfl⟩ | kernel_rfl) | with_reducible refine choT (by assumption) ?_ | with_reducible refine choF (by assumption) ?_ | with_reducible refine choF' (by assumption) ?_ | (with_reducible refine altT ?_ ?_; first | omega | (simp only [List.length_append, List.length_cons, List.length_nil, List.length_map, List.length_take, List.length_drop, List.length_replicate]; omega)) | with_reducible refine altF ?_ | with_reducible refine all fun _ => ?_ | with_reducible refine both ?_ ?_ | (with_reducible refine choT ?_ ?_; omega) | (with_reducible refine choF ?_ ?_; omega) | with_reducible refine cho (fun _ => ?_) (fun _ => ?_))
    · refine ⟨_, _, _, rfl, Sub.own_sub (sz := 4) (Sub.refl _ _), l, ⟨rfl, ?_⟩, ?_, rfl⟩
      · rw [hf, List.take_length]
      · rw [hf]
  · repeat' (first | with_reducible apply Stp.go | with_reducible refine imp fun _ => ?_ | (with_reducible refine hyp ?_ ?_; first | assumption | exact leftT_mem (by assumption)) | (with_reducible refine need ?_ ?_; first | trivial | omega | (simp only [List.length_append, List.length_cons, List.length_nil, List.length_map, List.length_take, List.length_drop, List.length_replicate]; omega)) | (with_reducible refine fact ?_ ?_; first | trivial | exact ⟨rfl, rfl⟩ | kernel_rfl) | with_reducible refine choT (by assumption) ?_ | with_reducible refine choF (by assumption) ?_ | with_reducible refine choF' (by assumption) ?_ | (with_reducible refine altT ?_ ?_; first | omega | (simp only [List.length_append, List.length_cons, List.length_nil, List.length_map, List.length_take, List.length_drop, List.length_replicate]; omega)) | with_reducible refine altF ?_ | with_reducible refine all fun _ => ?_ | with_reducible refine both ?_ ?_ | (with_reducible refine choT ?_ ?_; omega) | (with_reducible refine choF ?_ ?_; omega) | with_reducible refine cho (fun _ => ?_) (fun _ => ?_))
    · rw [h]
      refine loopI (β := Nat × Nat × List En) (fun x => x.1 < x.2.1 ∧ x.2.1 ≤ l.length ∧ x.2.2.length = l.length ∧ x.2.2.drop x.2.1 = l.drop x.2.1 ∧ x.2.2.take x.1 = (l.take x.2.1).filter fun e => !e.del)
        (fun x => [.own v l.length, .val (.func (.func 66) #[] #[]), I .i64 (x.1 : Nat), I .i64 (x.2.1 : Nat)]) (fun x => [.row v 35 4 (x.2.2.map En.av) 0]) (fun x => l.length - x.2.1) (i0, i0 + 1, l) ⟨by dsimp only; omega, by dsimp only; omega, rfl, rfl, hf.symm⟩ (Sub.refl _ _) ?_
      rintro ⟨i, j, l'⟩ ⟨h1, h2, h3, h4, h5⟩
      dsimp only at h1 h2 h3 h4 h5 ⊢
      by_cases hlt : j < l.length
      · have e1 : l'.getD j default = l.getD j default := by
          have := congrArg (fun x => x.getD 0 default) h4
          simpa [List.getD_eq_getElem?_getD, List.getElem?_drop] using this
        have e2 : (l.take (j + 1)).filter (fun e => !e.del) = (l.take j).filter (fun e => !e.del) ++ (if (l.getD j default).del = true then [] else [l.getD j default]) := by
          rw [take_succ_d hlt, List.filter_append]
          generalize l.getD j default = y
          cases hd : y.del <;> simp [hd]
        have e3 : l'.drop (j + 1) = l.drop (j + 1) := by
          have := congrArg (List.drop 1) h4
          simpa [List.drop_drop] using this
        rw [← e1] at e2
        repeat' (first | with_reducible apply Stp.go | with_reducible refine imp fun _ => ?_ | (with_reducible refine hyp ?_ ?_; first | assumption | exact leftT_mem (by assumption)) | (with_reducible refine need ?_ ?_; first | trivial | omega | (simp only [List.length_append, List.length_cons, List.length_nil, List.length_map, List.length_take, List.length_drop, List.length_replicate]; omega)) | (with_reducible refine fact ?_ ?_; first | trivial | exact ⟨rfl, rfl⟩ | kernel_rfl) | with_reducible refine choT (by assumption) ?_ | with_reducible refine choF (by assumption) ?_ | with_reducible refine choF' (by assumption) ?_ | (with_reducible refine altT ?_ ?_; first | omega | (simp only [List.length_append, List.length_cons, List.length_nil, List.length_map, List.length_take, List.length_drop, List.length_replicate]; omega)) | with_reducible refine altF ?_ | with_reducible refine all fun _ => ?_ | with_reducible refine both ?_ ?_ | (with_reducible refine choT ?_ ?_; omega) | (with_reducible refine choF ?_ ?_; omega) | with_reducible refine cho (fun _ => ?_) (fun _ => ?_))
        · rename_i hd
          refine again (i, j + 1, l') (by dsimp only; omega) ⟨by dsimp only; omega, by dsimp only; omega, h3, e3, ?_⟩ (subS _)
          rw [e2, if_pos hd, List.append_nil]
          exact h5
        · rename_i hd
          refine again (i + 1, j + 1, l'.set i (l'.getD j default)) (by dsimp only; omega) ⟨by dsimp only; omega, by dsimp only; omega, by simpa using h3, ?_, ?_⟩ (subS _)
          · dsimp only
            rw [List.drop_set, if_pos (by omega), e3]
          · dsimp only
            rw [e2, if_neg hd, ← h5, List.take_set, List.take_succ_eq_append_getElem (by omega), List.set_append]
            simp [List.length_take, Nat.min_eq_left (show i ≤ l'.length by omega)]
      · have hj : j = l.length := by omega
        subst hj
        rw [List.take_length] at h5
        have hi : (l.filter fun e => !e.del).length = i := by rw [← h5]; simp; omega
        repeat' (first | with_reducible apply Stp.go | with_reducible refine imp fun _ => ?_ | (with_reducible refine hyp ?_ ?_; first | assumption | exact leftT_mem (by assumption)) | (with_reducible refine need ?_ ?_; first | trivial | omega | (simp only [List.length_append, List.length_cons, List.length_nil, List.length_map, List.length_take, List.length_drop, List.length_replicate]; omega)) | (with_reducible refine fact ?_ ?_; first | trivial | exact ⟨rfl, rfl⟩ | kernel_rfl) | with_reducible refine choT (by assumption) ?_ | with_reducible refine choF (by assumption) ?_ | with_reducible refine choF' (by assumption) ?_ | (with_reducible refine altT ?_ ?_; first | omega | (simp only [List.length_append, List.length_cons, List.length_nil, List.length_map, List.length_take, List.length_drop, List.length_replicate]; omega)) | with_reducible refine altF ?_ | with_reducible refine all fun _ => ?_ | with_reducible refine both ?_ ?_ | (with_reducible refine choT ?_ ?_; omega) | (with_reducible refine choF ?_ ?_; omega) | with_reducible refine cho (fun _ => ?_) (fun _ => ?_))
        refine ⟨_, _, _, rfl, Sub.refl _ _, _, ⟨?_, ?_⟩, by rw [hi], rfl⟩
        · simp only [List.length_append, List.length_take, List.length_replicate, List.length_drop]
          omega
        · rw [hi, List.append_assoc, List.take_append_of_le_length (by simp; omega), List.take_take, Nat.min_self, h5]
instance {l : List En} {v : Value} {n : Nat} {σ : Store} : EQ Go.Proofs.Try.prog 65 [.own v n, .val (.func (.func 66) #[] #[])] (.row v 35 4 (l.map En.av) 0 :: σ) (n = l.length ∧ l.length ≤ 1000000000) (List En)
    (fun l' => l'.length = l.length ∧ l'.take (l.filter fun e => !e.del).length = l.filter fun e => !e.del) (fun _ => .sub v 4 0 (l.filter fun e => !e.del).length) (fun l' => .row v 35 4 (l'.map En.av) 0 :: σ) := ⟨fun ⟨h1, h2⟩ => by
  subst h1
  exact ((Delete_ok l v h2).frame σ).mono fun x τ ⟨σ1, e1, _, y, e2, e3, e4⟩ => ⟨y, e2, e3, by rw [e1, e4]; rfl⟩⟩
theorem Map_ok (l : List En) (m : SM) (hl : l.length ≤ 1000000000) : aPure Go.Proofs.Try.prog 35 [.lst 4 (l.map En.av) m] (.lst 4 ((mapE l).map En.av) .ro) := by
  refine ACalls.fin (entry_Map.go ?_)
  unfold entry_Map.sh
  have hf := foldE_length l
  repeat' (first | with_reducible apply Stp.go | with_reducible refine imp fun _ => ?_ | (with_reducible refine hyp ?_ ?_; first | assumption | exact leftT_mem (by assumption)) | (with_reducible refine need ?_ ?_; first | trivial | omega | (simp only [List.length_append, List.length_cons, List.length_nil, List.length_map, List.length_take, List.length_drop, List.length_replicate]; omega)) | (with_reducible refine fact ?_ ?_; first | trivial | exact ⟨rfl, rfl⟩ | kernel_rfl) | with_reducible refine choT (by assumption) ?_ | with_reducible refine choF (by assumption) ?_ | with_reducible refine choF' (by assumption) ?_ | (with_reducible refine altT ?_ ?_; first | omega | (simp only [List.length_append, List.length_cons, List.length_nil, List.length_map, List.length_take, List.length_drop, List.length_replicate]; omega)) | with_reducible refine altF ?_ | with_reducible refine all fun _ => ?_ | with_reducible refine both ?_ ?_ | (with_reducible refine choT ?_ ?_; omega) | (with_reducible refine choF ?_ ?_; omega) | with_reducible refine cho (fun _ => ?_) (fun _ => ?_))
  rename_i v l' h
  have hk : ((foldE l).filter fun e => !e.del).length ≤ (foldE l).length := List.length_filter_le _ _
  refine ⟨_, _, _, rfl, Sub.cons_sub (σ1 := []) (σ2 := []) (by simpa [h.1] using hk) (Sub.refl _ _), ?_, rfl⟩
  rw [List.drop_zero, ← List.map_take, h.2]
  rfl
instance {a : AV} {l : List En} {m : SM} [h : IsL a En.av 4 l m] : PC Go.Proofs.Try.prog 35 [a] (l.length ≤ 1000000000) (.lst 4 ((mapE l).map En.av) .ro) := ⟨fun hl => ⟨[.lst 4 (l.map En.av) m], ⟨h.sub, trivial⟩, Map_ok l m hl⟩⟩
theorem ref03_Map_ok (l : List En) (m : SM) (hl : l.length ≤ 1000000000) : aPure Go.Proofs.Try.prog 36 [.lst 4 (l.map En.av) m] (.lst 4 ((mapE l).map En.av) .ro) := by
  refine ACalls.fin (ref03_Map.go ?_)
  unfold ref03_Map.sh
  have hf := foldE_length l
  repeat' (first | with_reducible apply Stp.go | with_reducible refine imp fun _ => ?_ | (with_reducible refine hyp ?_ ?_; first | assumption | exact leftT_mem (by assumption)) | (with_reducible refine need ?_ ?_; first | trivial | omega | (simp only [List.length_append, List.length_cons, List.length_nil, List.length_map, List.length_take, List.length_drop, List.length_replicate]; omega)) | (with_reducible refine fact ?_ ?_; first | trivial | exact ⟨rfl, rfl⟩ | kernel_rfl) | with_reducible refine choT (by assumption) ?_ | with_reducible refine choF (by assumption) ?_ | with_reducible refine choF' (by assumption) ?_ | (with_reducible refine altT ?_ ?_; first | omega | (simp only [List.length_append, List.length_cons, List.length_nil, List.length_map, List.length_take, List.length_drop, List.length_replicate]; omega)) | with_reducible refine altF ?_ | with_reducible refine all fun _ => ?_ | with_reducible refine both ?_ ?_ | (with_reducible refine choT ?_ ?_; omega) | (with_reducible refine choF ?_ ?_; omega) | with_reducible refine cho (fun _ => ?_) (fun _ => ?_))
  unfold mapE
  generalize foldE l = F at *
  refine loopI (β := Nat × Value) (fun x => x.1 ≤ F.length) (fun x => [.own x.2 ((F.take x.1).filter fun e => !e.del).length, .lst 4 (F.map En.av) .ro, I .i64 (x.1 : Nat)]) (fun x => [.row x.2 35 4 (((F.take x.1).filter fun e => !e.del).map En.av) 0]) (fun x => F.length - x.1) (0, .slice none 0 0) (Nat.zero_le _) (Sub.nil_own 35 (by decide) _ [] [_, _]) ?_
  rintro ⟨i, v⟩ hi
  dsimp only at hi ⊢
  have hk : ((F.take i).filter fun e => !e.del).length ≤ i := by
    have := List.length_filter_le (fun e : En => !e.del) (F.take i)
    rw [List.length_take] at this
    omega
  by_cases hlt : i < F.length
  · have e2 : (F.take (i + 1)).filter (fun e => !e.del) = (F.take i).filter (fun e => !e.del) ++ (if (F.getD i default).del = true then [] else [F.getD i default]) := by
      rw [take_succ_d hlt, List.filter_append]
      generalize F.getD i default = y
      cases hd : y.del <;> simp [hd]
    repeat' (first | with_reducible apply Stp.go | with_reducible refine imp fun _ => ?_ | (with_reducible refine hyp ?_ ?_; first | assumption | exact leftT_mem (by assumption)) | (with_reducible refine need ?_ ?_; first | trivial | omega | (simp only [List.length_append, List.length_cons, List.length_nil, List.length_map, List.length_take, List.length_drop, List.length_replicate]; omega)) | (with_reducible refine fact ?_ ?_; first | trivial | exact ⟨rfl, rfl⟩ | kernel_rfl) | with_reducible refine choT (by assumption) ?_ | with_reducible refine choF (by assumption) ?_ | with_reducible refine choF' (by assumption) ?_ | (with_reducible refine altT ?_ ?_; first | omega | (simp only [List.length_append, List.length_cons, List.length_nil, List.length_map, List.length_take, List.length_drop, List.length_replicate]; omega)) | with_reducible refine altF ?_ | with_reducible refine all fun _ => ?_ | with_reducible refine both ?_ ?_ | (with_reducible refine choT ?_ ?_; omega) | (with_reducible refine choF ?_ ?_; omega) | with_reducible refine cho (fun _ => ?_) (fun _ => ?_))
    · rename_i hd
      refine again (i + 1, v) (by dsimp only; omega) (by dsimp only; omega) ?_
      dsimp only
      rw [e2, if_pos hd, List.append_nil]
      exact Sub.refl _ _
    · rename_i hd w
      refine again (i + 1, w) (by dsimp only; omega) (by dsimp only; omega) ?_
      dsimp only
      rw [e2, if_neg hd]
      exact Sub.refl _ _
  · have e : F.take i = F := List.take_of_length_le (by omega)
    rw [e]
    repeat' (first | with_reducible apply Stp.go | with_reducible refine imp fun _ => ?_ | (with_reducible refine hyp ?_ ?_; first | assumption | exact leftT_mem (by assumption)) | (with_reducible refine need ?_ ?_; first | trivial | omega | (simp only [List.length_append, List.length_cons, List.length_nil, List.length_map, List.length_take, List.length_drop, List.length_replicate]; omega)) | (with_reducible refine fact ?_ ?_; first | trivial | exact ⟨rfl, rfl⟩ | kernel_rfl) | with_reducible refine choT (by assumption) ?_ | with_reducible refine choF (by assumption) ?_ | with_reducible refine choF' (by assumption) ?_ | (with_reducible refine altT ?_ ?_; first | omega | (simp only [List.length_append, List.length_cons, List.length_nil, List.length_map, List.length_take, List.length_drop, List.length_replicate]; omega)) | with_reducible refine altF ?_ | with_reducible refine all fun _ => ?_ | with_reducible refine both ?_ ?_ | (with_reducible refine choT ?_ ?_; omega) | (with_reducible refine choF ?_ ?_; omega) | with_reducible refine cho (fun _ => ?_) (fun _ => ?_))
    exact ⟨_, _, _, rfl, retOwn (Sub.refl _ _), rfl, rfl⟩
instance {a : AV} {l : List En} {m : SM} [h : IsL a En.av 4 l m] : PC Go.Proofs.Try.prog 36 [a] (l.length ≤ 1000000000) (.lst 4 ((mapE l).map En.av) .ro) := ⟨fun hl => ⟨[.lst 4 (l.map En.av) m], ⟨h.sub, trivial⟩, ref03_Map_ok l m hl⟩⟩
end Go.Ab
