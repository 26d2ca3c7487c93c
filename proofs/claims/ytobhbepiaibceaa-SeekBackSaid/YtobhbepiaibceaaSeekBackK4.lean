/- The texts that this claim needs, part 4: a logic over abstract values, its steps, what the functions do. No condition of its own. -/
import Derived.Lib.Bytealg
import Derived.Laws.Externs
import Derived.ChangeKeysEq
import Derived.Shelf.SlLaysF0
import Derived.Test.YtobhbepiaibceaaProg
import Derived.Shelf.SlSortCmp.NoneTotal
import Derived.Test.YtobhbepiaibceaaSeekBackK3
/- Functions of layers 3 and 4: what is right and fit, what is the same; an entry's bytes. -/
set_option linter.unusedVariables false
set_option linter.unusedSimpArgs false
namespace Go.Ab
def ref03_Right.mark : Mark := ⟨fun t => false, fun t => false, fun t => Nat.beq t 1, fun t => Nat.beq t 4 || Nat.beq t 9 || Nat.beq t 15 || Nat.beq t 21 || Nat.beq t 25 || Nat.beq t 31 || Nat.beq t 36, fun t => false⟩
def ref03_Right.ann : Ann := ⟨fun n => [], fun n => none, fun n => none⟩
def slices_IndexFunc.mark : Mark := ⟨fun t => Nat.beq t 16, fun t => false, fun t => false, fun t => Nat.beq t 15, fun t => false⟩
def slices_IndexFunc.ann : Ann := ⟨fun n => bif Nat.beq n 2 then [0, 1, 7, 8] else [], fun n => none, fun n => none⟩
/-- 'slices.IndexFunc[[]marlstone/api.Entry,marlstone/api.Entry]' -/
def slices_IndexFunc.sh (a0 a1 : AV) (σ : Store) (Q : AEnd → Store → Prop) : Prop :=
  Do (aBuiltin Go.Proofs.Try.prog .len #[22] [a0]) fun t7 =>
  aLoop (fun go vs σ =>
    At vs 0 fun s0 => At vs 1 fun s1 => At vs 2 fun s7 => At vs 3 fun s8 => Do (aBin Go.Proofs.Try.prog .lss 3 s8 s7) fun t9 =>
    aCond t9
      (Do (aIndexAddr .slice 4 s0 s8) fun t14 =>
    Do (loadF true 4 t14) fun t15 =>
    Do (aPureV Go.Proofs.Try.prog s1 [t15]) fun t16 =>
    aCond t16
      (Q (.ret s8) σ)
      (Do (aBin Go.Proofs.Try.prog .add 3 s8 (.val (.int .i64 1))) fun t18 =>
    go [s0, s1, s7, t18] σ))
      (Q (.ret (.val (.int .i64 (-1)))) σ))
    [a0, a1, t7, (.val (.int .i64 0))] σ
theorem slices_IndexFunc.eq (a0 a1 : AV) (σ : Store) (Q : AEnd → Store → Prop) : vc (semOf Go.Proofs.Try.prog slices_IndexFunc.mark) Go.Proofs.Try.f96.ntmps slices_IndexFunc.ann (bodyOf Go.Proofs.Try.f96) (endK [.tmp 4] Q) (argFr [a0, a1]) σ = slices_IndexFunc.sh a0 a1 σ Q := by kernel_rfl
theorem slices_IndexFunc.go {a0 a1 : AV} {σ : Store} {Q : AEnd → Store → Prop} (h : slices_IndexFunc.sh a0 a1 σ Q) : ACalls Go.Proofs.Try.prog 96 [a0, a1] σ Q :=
  acalls_of_eq [.tmp 4] Go.Proofs.Try.func96 (by kernel_rfl) (by kernel_rfl) (by kernel_rfl) (by kernel_rfl) (slices_IndexFunc.eq a0 a1 σ Q) h
def slices_ContainsFunc.mark : Mark := ⟨fun t => Nat.beq t 7, fun t => false, fun t => false, fun t => false, fun t => false⟩
def slices_ContainsFunc.ann : Ann := ⟨fun n => [], fun n => none, fun n => none⟩
/-- 'slices.ContainsFunc[[]marlstone/api.Entry,marlstone/api.Entry]' -/
def slices_ContainsFunc.sh (a0 a1 : AV) (σ : Store) (Q : AEnd → Store → Prop) : Prop :=
  Do (aPureC Go.Proofs.Try.prog 96 [a0, a1]) fun t7 =>
  Do (aBin Go.Proofs.Try.prog .geq 3 t7 (.val (.int .i64 0))) fun t8 =>
  Q (.ret t8) σ
theorem slices_ContainsFunc.eq (a0 a1 : AV) (σ : Store) (Q : AEnd → Store → Prop) : vc (semOf Go.Proofs.Try.prog slices_ContainsFunc.mark) Go.Proofs.Try.f81.ntmps slices_ContainsFunc.ann (bodyOf Go.Proofs.Try.f81) (endK [.tmp 4] Q) (argFr [a0, a1]) σ = slices_ContainsFunc.sh a0 a1 σ Q := by kernel_rfl
theorem slices_ContainsFunc.go {a0 a1 : AV} {σ : Store} {Q : AEnd → Store → Prop} (h : slices_ContainsFunc.sh a0 a1 σ Q) : ACalls Go.Proofs.Try.prog 81 [a0, a1] σ Q :=
  acalls_of_eq [.tmp 4] Go.Proofs.Try.func81 (by kernel_rfl) (by kernel_rfl) (by kernel_rfl) (by kernel_rfl) (slices_ContainsFunc.eq a0 a1 σ Q) h
def ref04_Fit.mark : Mark := ⟨fun t => Nat.beq t 15 || Nat.beq t 28, fun t => false, fun t => false, fun t => Nat.beq t 27, fun t => false⟩
def ref04_Fit.ann : Ann := ⟨fun n => bif Nat.beq n 4 then [0, 3] else [], fun n => none, fun n => none⟩
/-- A function value that is told of one entry. -/
class Pred (P : Program) (g : AV) (p : outParam (En → Bool)) : Prop where
  h : ∀ e : En, ∃ f a b args1, calleeOf g = some (f, a, b) ∧ SubVs (a ++ [e.av] ++ b) args1 ∧ aPure P f args1 (B (p e))
theorem Pred.pure {P : Program} {g : AV} {p : En → Bool} (h : Pred P g p) (e : En) : aPureV P g [e.av] (B (p e)) := by
  obtain ⟨f, a, b, args1, h1, h2, h3⟩ := h.h e
  unfold aPureV
  rw [h1]
  exact .inl ⟨args1, h2, h3⟩
instance predV {f : FuncId} {u : En → Bool} [h : ∀ e : En, PC Go.Proofs.Try.prog f [e.av] True (B (u e))] : Pred Go.Proofs.Try.prog (.val (.func (.func f) #[] #[])) u := ⟨fun e => by
  obtain ⟨a1, h1, h2⟩ := (h e).ct trivial
  exact ⟨f, [], [], a1, rfl, by simpa using h1, h2⟩⟩
theorem IndexFunc_ok (l : List En) (m : SM) (hl : l.length ≤ 1000000000000) (g : AV) (p : En → Bool) (hg : Pred Go.Proofs.Try.prog g p) :
    aPure Go.Proofs.Try.prog 96 [.lst 4 (l.map En.av) m, g] (I .i64 (idx p l)) := by
  refine slices_IndexFunc.go ?_
  unfold slices_IndexFunc.sh
  have step : ∀ (e : En) (K : AV → Prop), K (B (p e)) → Do (aPureV Go.Proofs.Try.prog g [e.av]) K := fun e K hK => ⟨_, hg.pure e, hK⟩
  repeat' (first | with_reducible apply Stp.go | with_reducible refine imp fun _ => ?_ | (with_reducible refine hyp ?_ ?_; first | assumption | exact leftT_mem (by assumption)) | (with_reducible refine need ?_ ?_; first | trivial | omega | exact ⟨by assumption, by omega⟩ | (simp only [List.length_append, List.length_cons, List.length_nil, List.length_map, List.length_take, List.length_drop, List.length_replicate, List.length_set]; omega)) | (with_reducible refine fact ?_ ?_; first | trivial | exact ⟨rfl, rfl⟩ | kernel_rfl) | with_reducible refine choT (by assumption) ?_ | with_reducible refine choF (by assumption) ?_ | with_reducible refine choF' (by assumption) ?_ | (with_reducible refine altT ?_ ?_; first | omega | (simp only [List.length_append, List.length_cons, List.length_nil, List.length_map, List.length_take, List.length_drop, List.length_replicate, List.length_set]; omega)) | with_reducible refine altF ?_ | with_reducible refine all fun _ => ?_ | with_reducible refine both ?_ ?_ | (with_reducible refine choT ?_ ?_; omega) | (with_reducible refine choF ?_ ?_; omega) | with_reducible refine cho (fun _ => ?_) (fun _ => ?_))
  refine loopI (β := Nat) (fun i => i ≤ l.length ∧ idx p l = (if idx p (l.drop i) < 0 then -1 else idx p (l.drop i) + i)) (fun i => [.lst 4 (l.map En.av) m, g, I .i64 (l.length : Nat), I .i64 (i : Nat)]) (fun _ => []) (fun i => l.length - i) 0 ⟨by omega, ?_⟩ (Sub.refl _ _) ?_
  · have := idx_lt p l
    simp only [List.drop_zero]
    split <;> omega
  rintro i ⟨hi, hs⟩
  repeat' (first | with_reducible apply Stp.go | with_reducible refine imp fun _ => ?_ | (with_reducible refine hyp ?_ ?_; first | assumption | exact leftT_mem (by assumption)) | (with_reducible refine need ?_ ?_; first | trivial | omega | exact ⟨by assumption, by omega⟩ | (simp only [List.length_append, List.length_cons, List.length_nil, List.length_map, List.length_take, List.length_drop, List.length_replicate, List.length_set]; omega)) | (with_reducible refine fact ?_ ?_; first | trivial | exact ⟨rfl, rfl⟩ | kernel_rfl) | with_reducible refine choT (by assumption) ?_ | with_reducible refine choF (by assumption) ?_ | with_reducible refine choF' (by assumption) ?_ | (with_reducible refine altT ?_ ?_; first | omega | (simp only [List.length_append, List.length_cons, List.length_nil, List.length_map, List.length_take, List.length_drop, List.length_replicate, List.length_set]; omega)) | with_reducible refine altF ?_ | with_reducible refine all fun _ => ?_ | with_reducible refine both ?_ ?_ | (with_reducible refine choT ?_ ?_; omega) | (with_reducible refine choF ?_ ?_; omega) | with_reducible refine cho (fun _ => ?_) (fun _ => ?_))
  · refine step _ _ ?_
    rename_i h1
    repeat' (first | with_reducible apply Stp.go | with_reducible refine imp fun _ => ?_ | (with_reducible refine hyp ?_ ?_; first | assumption | exact leftT_mem (by assumption)) | (with_reducible refine need ?_ ?_; first | trivial | omega | exact ⟨by assumption, by omega⟩ | (simp only [List.length_append, List.length_cons, List.length_nil, List.length_map, List.length_take, List.length_drop, List.length_replicate, List.length_set]; omega)) | (with_reducible refine fact ?_ ?_; first | trivial | exact ⟨rfl, rfl⟩ | kernel_rfl) | with_reducible refine choT (by assumption) ?_ | with_reducible refine choF (by assumption) ?_ | with_reducible refine choF' (by assumption) ?_ | (with_reducible refine altT ?_ ?_; first | omega | (simp only [List.length_append, List.length_cons, List.length_nil, List.length_map, List.length_take, List.length_drop, List.length_replicate, List.length_set]; omega)) | with_reducible refine altF ?_ | with_reducible refine all fun _ => ?_ | with_reducible refine both ?_ ?_ | (with_reducible refine choT ?_ ?_; omega) | (with_reducible refine choF ?_ ?_; omega) | with_reducible refine cho (fun _ => ?_) (fun _ => ?_))
    · rename_i h
      rw [drop_cons (show i < l.length by omega)] at hs
      simp only [idx, h, if_true] at hs
      refine ⟨?_, rfl⟩
      rw [hs]
      simp
    · rename_i h
      refine again (i + 1) (by omega) ⟨by omega, ?_⟩ (Sub.refl _ _)
      rw [hs, drop_cons (show i < l.length by omega)]
      have := idx_lt p (l.drop (i + 1))
      simp only [idx, h, Bool.false_eq_true, if_false]
      split <;> split <;> rename_i h2 h3 <;> (try split at h2) <;> omega
  · have : l.drop i = [] := List.drop_of_length_le (by omega)
    rw [hs, this]
    exact ⟨rfl, rfl⟩
instance {a g : AV} {l : List En} {m : SM} {p : En → Bool} [h : IsL a En.av 4 l m] [hg : Pred Go.Proofs.Try.prog g p] : PC Go.Proofs.Try.prog 96 [a, g] (l.length ≤ 1000000000000) (I .i64 (idx p l)) :=
  ⟨fun hl => ⟨[.lst 4 (l.map En.av) m, g], ⟨h.sub, SubVs.refl _⟩, IndexFunc_ok l m hl g p hg⟩⟩
theorem ContainsFunc_ok (l : List En) (m : SM) (hl : l.length ≤ 1000000000000) (g : AV) (p : En → Bool) (hg : Pred Go.Proofs.Try.prog g p) :
    aPure Go.Proofs.Try.prog 81 [.lst 4 (l.map En.av) m, g] (B (l.any p)) := by
  refine slices_ContainsFunc.go ?_
  unfold slices_ContainsFunc.sh
  repeat' (first | with_reducible apply Stp.go | with_reducible refine imp fun _ => ?_ | (with_reducible refine hyp ?_ ?_; first | assumption | exact leftT_mem (by assumption)) | (with_reducible refine need ?_ ?_; first | trivial | omega | exact ⟨by assumption, by omega⟩ | (simp only [List.length_append, List.length_cons, List.length_nil, List.length_map, List.length_take, List.length_drop, List.length_replicate, List.length_set]; omega)) | (with_reducible refine fact ?_ ?_; first | trivial | exact ⟨rfl, rfl⟩ | kernel_rfl) | with_reducible refine choT (by assumption) ?_ | with_reducible refine choF (by assumption) ?_ | with_reducible refine choF' (by assumption) ?_ | (with_reducible refine altT ?_ ?_; first | omega | (simp only [List.length_append, List.length_cons, List.length_nil, List.length_map, List.length_take, List.length_drop, List.length_replicate, List.length_set]; omega)) | with_reducible refine altF ?_ | with_reducible refine all fun _ => ?_ | with_reducible refine both ?_ ?_ | (with_reducible refine choT ?_ ?_; omega) | (with_reducible refine choF ?_ ?_; omega) | with_reducible refine cho (fun _ => ?_) (fun _ => ?_))
  have e : decide (0 ≤ idx p l) = l.any p := by rw [Bool.eq_iff_iff]; simpa using idx_any p l
  rw [e]
  exact ⟨rfl, rfl⟩
instance {a g : AV} {l : List En} {m : SM} {p : En → Bool} [h : IsL a En.av 4 l m] [hg : Pred Go.Proofs.Try.prog g p] : PC Go.Proofs.Try.prog 81 [a, g] (l.length ≤ 1000000000000) (B (l.any p)) :=
  ⟨fun hl => ⟨[.lst 4 (l.map En.av) m, g], ⟨h.sub, SubVs.refl _⟩, ContainsFunc_ok l m hl g p hg⟩⟩
theorem all_right (l : List En) : (!l.any fun e => !right e) = l.all right := by
  rw [List.any_eq_not_all_not]
  simp
def ref03_Same.mark : Mark := ⟨fun t => false, fun t => false, fun t => false, fun t => Nat.beq t 20 || Nat.beq t 24, fun t => false⟩
def ref03_Same.ann : Ann := ⟨fun n => bif Nat.beq n 4 then [0, 1, 5] else [], fun n => none, fun n => none⟩
/-- 'marlstone/marlstoneref03.Same' -/
def ref03_Same.sh (a0 a1 : AV) (σ : Store) (Q : AEnd → Store → Prop) : Prop :=
  Do (aBuiltin Go.Proofs.Try.prog .len #[22] [a0]) fun t7 =>
  Do (aBuiltin Go.Proofs.Try.prog .len #[22] [a1]) fun t9 =>
  Do (aBin Go.Proofs.Try.prog .neq 3 t7 t9) fun t10 =>
  aCond t10
    (Q (.ret (.val (.bool false))) σ)
    (aLoop (fun go vs σ =>
    At vs 0 fun s0 => At vs 1 fun s1 => At vs 2 fun s5 => Do (aBuiltin Go.Proofs.Try.prog .len #[22] [s0]) fun t13 =>
    Do (aBin Go.Proofs.Try.prog .lss 3 s5 t13) fun t14 =>
    aCond t14
      (Do (aIndexAddr .slice 4 s0 s5) fun t19 =>
    Do (loadF true 4 t19) fun t20 =>
    Do (aIndexAddr .slice 4 s1 s5) fun t23 =>
    Do (loadF true 4 t23) fun t24 =>
    Do (aBin Go.Proofs.Try.prog .neq 54 t20 t24) fun t25 =>
    aCond t25
      (Q (.ret (.val (.bool false))) σ)
      (Do (aBin Go.Proofs.Try.prog .add 3 s5 (.val (.int .i64 1))) fun t16 =>
    go [s0, s1, t16] σ))
      (Q (.ret (.val (.bool true))) σ))
    [a0, a1, (.val (.int .i64 0))] σ)
theorem ref03_Same.eq (a0 a1 : AV) (σ : Store) (Q : AEnd → Store → Prop) : vc (semOf Go.Proofs.Try.prog ref03_Same.mark) Go.Proofs.Try.f28.ntmps ref03_Same.ann (bodyOf Go.Proofs.Try.f28) (endK [.tmp 4] Q) (argFr [a0, a1]) σ = ref03_Same.sh a0 a1 σ Q := by kernel_rfl
theorem ref03_Same.go {a0 a1 : AV} {σ : Store} {Q : AEnd → Store → Prop} (h : ref03_Same.sh a0 a1 σ Q) : ACalls Go.Proofs.Try.prog 28 [a0, a1] σ Q :=
  acalls_of_eq [.tmp 4] Go.Proofs.Try.func28 (by kernel_rfl) (by kernel_rfl) (by kernel_rfl) (by kernel_rfl) (ref03_Same.eq a0 a1 σ Q) h
theorem Same_ok (a b : List En) (m m' : SM) (ha : a.length ≤ 1000000000000) : aPure Go.Proofs.Try.prog 28 [.lst 4 (a.map En.av) m, .lst 4 (b.map En.av) m'] (B (decide (a = b))) := by
  refine ref03_Same.go ?_
  unfold ref03_Same.sh
  repeat' (first | with_reducible apply Stp.go | with_reducible refine imp fun _ => ?_ | (with_reducible refine hyp ?_ ?_; first | assumption | exact leftT_mem (by assumption)) | (with_reducible refine need ?_ ?_; first | trivial | omega | exact ⟨by assumption, by omega⟩ | (simp only [List.length_append, List.length_cons, List.length_nil, List.length_map, List.length_take, List.length_drop, List.length_replicate, List.length_set]; omega)) | (with_reducible refine fact ?_ ?_; first | trivial | exact ⟨rfl, rfl⟩ | kernel_rfl) | with_reducible refine choT (by assumption) ?_ | with_reducible refine choF (by assumption) ?_ | with_reducible refine choF' (by assumption) ?_ | (with_reducible refine altT ?_ ?_; first | omega | (simp only [List.length_append, List.length_cons, List.length_nil, List.length_map, List.length_take, List.length_drop, List.length_replicate, List.length_set]; omega)) | with_reducible refine altF ?_ | with_reducible refine all fun _ => ?_ | with_reducible refine both ?_ ?_ | (with_reducible refine choT ?_ ?_; omega) | (with_reducible refine choF ?_ ?_; omega) | with_reducible refine cho (fun _ => ?_) (fun _ => ?_))
  · rename_i h
    have hab : a.length = b.length := h
    refine loopI (β := Nat) (fun i => i ≤ a.length ∧ decide (a = b) = decide (a.drop i = b.drop i)) (fun i => [.lst 4 (a.map En.av) m, .lst 4 (b.map En.av) m', I .i64 (i : Nat)]) (fun _ => []) (fun i => a.length - i) 0 ⟨by omega, rfl⟩ (Sub.refl _ _) ?_
    rintro i ⟨hi, hs⟩
    repeat' (first | with_reducible apply Stp.go | with_reducible refine imp fun _ => ?_ | (with_reducible refine hyp ?_ ?_; first | assumption | exact leftT_mem (by assumption)) | (with_reducible refine need ?_ ?_; first | trivial | omega | exact ⟨by assumption, by omega⟩ | (simp only [List.length_append, List.length_cons, List.length_nil, List.length_map, List.length_take, List.length_drop, List.length_replicate, List.length_set]; omega)) | (with_reducible refine fact ?_ ?_; first | trivial | exact ⟨rfl, rfl⟩ | kernel_rfl) | with_reducible refine choT (by assumption) ?_ | with_reducible refine choF (by assumption) ?_ | with_reducible refine choF' (by assumption) ?_ | (with_reducible refine altT ?_ ?_; first | omega | (simp only [List.length_append, List.length_cons, List.length_nil, List.length_map, List.length_take, List.length_drop, List.length_replicate, List.length_set]; omega)) | with_reducible refine altF ?_ | with_reducible refine all fun _ => ?_ | with_reducible refine both ?_ ?_ | (with_reducible refine choT ?_ ?_; omega) | (with_reducible refine choF ?_ ?_; omega) | with_reducible refine cho (fun _ => ?_) (fun _ => ?_))
    · rename_i h1 h2
      refine again (i + 1) (by omega) ⟨by omega, ?_⟩ (Sub.refl _ _)
      rw [hs, drop_cons (show i < a.length by omega), drop_cons (show i < b.length by omega), h2]
      simp
    · rename_i h1 h2
      rw [hs, drop_cons (show i < a.length by omega), drop_cons (show i < b.length by omega)]
      refine ⟨?_, rfl⟩
      simp only [List.cons.injEq, eq_false h2, false_and, decide_false]
    · have e1 : a.drop i = [] := List.drop_of_length_le (by omega)
      have e2 : b.drop i = [] := List.drop_of_length_le (by omega)
      rw [hs, e1, e2]
      exact ⟨rfl, rfl⟩
  · rename_i h
    have : ¬ a = b := fun e => h (by rw [e])
    exact ⟨by simp [this], rfl⟩
instance {x y : AV} {a b : List En} {m m' : SM} [h : IsL x En.av 4 a m] [h' : IsL y En.av 4 b m'] : PC Go.Proofs.Try.prog 28 [x, y] (a.length ≤ 1000000000000) (B (decide (a = b))) := ⟨fun hl => ⟨[.lst 4 (a.map En.av) m, .lst 4 (b.map En.av) m'], ⟨h.sub, h'.sub, trivial⟩, Same_ok a b m m' hl⟩⟩
end Go.Ab

/- An entry's bytes; few entries. -/
set_option linter.unusedVariables false
set_option linter.unusedSimpArgs false
namespace Go.Ab
def entry_Bytes.mark : Mark := ⟨fun t => Nat.beq t 5, fun t => Nat.beq t 7, fun t => Nat.beq t 1, fun t => Nat.beq t 4 || Nat.beq t 9 || Nat.beq t 14 || Nat.beq t 18 || Nat.beq t 21 || Nat.beq t 25, fun t => false⟩
def entry_Bytes.ann : Ann := ⟨fun n => [], fun n => bif Nat.beq n 6 then some [1, 3] else none, fun n => none⟩
/-- 'marlstone/entry.Bytes' -/
def entry_Bytes.sh (a0 : AV) (σ : Store) (Q : AEnd → Store → Prop) : Prop :=
  Do (aFreeze ((a0 : AV)).cells) fun t1 =>
  Do (loadF true 4 t1) fun t4 =>
  Do (aPureC Go.Proofs.Try.prog 61 [t4]) fun t5 =>
  Do (aUn Go.Proofs.Try.prog .not t5) fun t6 =>
  aCond t6
    (Q (.ret (.val (.slice none 0 0))) σ)
    (aRowL 5 (mkE [.val (.int .u8 0)]) 1 1 [(0, (W8 0))] σ fun t7 σ =>
  aJoin (fun j =>
    Do (aFieldAddr 2 1 t1) fun t8 =>
    Do (loadF false 1 t8) fun t9 =>
    aCond t9
      (Do (aIndexAddr .slice 1 t7 (.val (.int .i64 0))) fun t11 =>
      storeA 1 t11 (W8 1) σ fun u σ_2 =>
      j [t1, t7] σ_2)
      (j [t1, t7] σ)) fun vs σ_1 =>
  At vs 0 fun s1 => At vs 1 fun s3 => Do (aFieldAddr 3 1 s1) fun t13 =>
  Do (loadF false 1 t13) fun t14 =>
  Do (fun x => aConvN 3 143 t14 x Go.Proofs.Try.prog) fun t15 =>
  Do (aFieldAddr 0 1 s1) fun t17 =>
  Do (loadF false 1 t17) fun t18 =>
  aCall Go.Proofs.Try.prog 102 [s3, t15] σ_1 (fun t16 σ_3 =>
  aCall Go.Proofs.Try.prog 101 [t16, t18] σ_3 (fun t19 σ_4 =>
  Do (aFieldAddr 2 1 s1) fun t20 =>
  Do (loadF false 1 t20) fun t21 =>
  Do (aUn Go.Proofs.Try.prog .not t21) fun t22 =>
  aCond t22
    (Do (aFieldAddr 1 1 s1) fun t24 =>
    Do (loadF false 1 t24) fun t25 =>
    aCall Go.Proofs.Try.prog 101 [t19, t25] σ_4 (fun t26 σ_5 =>
    Q (.ret t26) σ_5) (fun e σ_6 => Q (.pan e) σ_6))
    (Q (.ret t19) σ_4)) (fun e_1 σ_7 => Q (.pan e_1) σ_7)) (fun e_2 σ_8 => Q (.pan e_2) σ_8))
theorem entry_Bytes.eq (a0 : AV) (σ : Store) (Q : AEnd → Store → Prop) : vc (semOf Go.Proofs.Try.prog entry_Bytes.mark) Go.Proofs.Try.f63.ntmps entry_Bytes.ann (bodyOf Go.Proofs.Try.f63) (endK [.tmp 2] Q) (argFr [a0]) σ = entry_Bytes.sh a0 σ Q := by kernel_rfl
theorem entry_Bytes.go {a0 : AV} {σ : Store} {Q : AEnd → Store → Prop} (h : entry_Bytes.sh a0 σ Q) : ACalls Go.Proofs.Try.prog 63 [a0] σ Q :=
  acalls_of_eq [.tmp 2] Go.Proofs.Try.func63 (by kernel_rfl) (by kernel_rfl) (by kernel_rfl) (by kernel_rfl) (entry_Bytes.eq a0 σ Q) h
def ref03_Bytes.mark : Mark := ⟨fun t => Nat.beq t 5 || Nat.beq t 15 || Nat.beq t 18 || Nat.beq t 24 || Nat.beq t 27 || Nat.beq t 30, fun t => false, fun t => Nat.beq t 1, fun t => Nat.beq t 4 || Nat.beq t 9 || Nat.beq t 13 || Nat.beq t 17 || Nat.beq t 22 || Nat.beq t 26 || Nat.beq t 29, fun t => false⟩
def ref03_Bytes.ann : Ann := ⟨fun n => [], fun n => none, fun n => none⟩
theorem entry_Bytes_ok (e : En) : aPure Go.Proofs.Try.prog 63 [e.av] (.lst 1 ((enB e).map byt) .ro) := by
  refine ACalls.fin (entry_Bytes.go ?_)
  unfold entry_Bytes.sh
  repeat' (first | with_reducible apply Stp.go | with_reducible refine imp fun _ => ?_ | (with_reducible refine hyp ?_ ?_; first | assumption | exact leftT_mem (by assumption)) | (with_reducible refine need ?_ ?_; first | trivial | omega | exact ⟨by assumption, by omega⟩ | (simp only [List.length_append, List.length_cons, List.length_nil, List.length_map, List.length_take, List.length_drop, List.length_replicate, List.length_set]; omega)) | (with_reducible refine fact ?_ ?_; first | trivial | exact ⟨rfl, rfl⟩ | kernel_rfl) | with_reducible refine choT (by assumption) ?_ | with_reducible refine choF (by assumption) ?_ | with_reducible refine choF' (by assumption) ?_ | (with_reducible refine altT ?_ ?_; first | omega | (simp only [List.length_append, List.length_cons, List.length_nil, List.length_map, List.length_take, List.length_drop, List.length_replicate, List.length_set]; omega)) | with_reducible refine altF ?_ | with_reducible refine all fun _ => ?_ | with_reducible refine both ?_ ?_ | (with_reducible refine choT ?_ ?_; omega) | (with_reducible refine choF ?_ ?_; omega) | with_reducible refine cho (fun _ => ?_) (fun _ => ?_))
  · rename_i h v
    obtain ⟨k0, k1, k2, k3, k4, k5⟩ := right_bounds h
    have hp := put_len64 (v := e.seq.toNat) (by omega)
    have hp2 := put_len64 (v := e.key.length) (by omega)
    refine joinI (β := Unit) (fun _ => True) (fun _ => [.rptr e.cs, .own v 1]) (fun _ => [.row v 5 1 ([if e.del = true then (1 : UInt8) else 0].map byt) 0]) ?_ ?_
    · repeat' (first | with_reducible apply Stp.go | with_reducible refine imp fun _ => ?_ | (with_reducible refine hyp ?_ ?_; first | assumption | exact leftT_mem (by assumption)) | (with_reducible refine need ?_ ?_; first | trivial | omega | exact ⟨by assumption, by omega⟩ | (simp only [List.length_append, List.length_cons, List.length_nil, List.length_map, List.length_take, List.length_drop, List.length_replicate, List.length_set]; omega)) | (with_reducible refine fact ?_ ?_; first | trivial | exact ⟨rfl, rfl⟩ | kernel_rfl) | with_reducible refine choT (by assumption) ?_ | with_reducible refine choF (by assumption) ?_ | with_reducible refine choF' (by assumption) ?_ | (with_reducible refine altT ?_ ?_; first | omega | (simp only [List.length_append, List.length_cons, List.length_nil, List.length_map, List.length_take, List.length_drop, List.length_replicate, List.length_set]; omega)) | with_reducible refine altF ?_ | with_reducible refine all fun _ => ?_ | with_reducible refine both ?_ ?_ | (with_reducible refine choT ?_ ?_; omega) | (with_reducible refine choF ?_ ?_; omega) | with_reducible refine cho (fun _ => ?_) (fun _ => ?_))
      · rename_i hd
        refine meet () trivial ?_
        rw [if_pos hd]
        exact Sub.refl _ _
      · rename_i hd
        refine meet () trivial ?_
        rw [if_neg hd]
        exact Sub.refl _ _
    · intro _ _
      repeat' (first | with_reducible apply Stp.go | with_reducible refine imp fun _ => ?_ | (with_reducible refine hyp ?_ ?_; first | assumption | exact leftT_mem (by assumption)) | (with_reducible refine need ?_ ?_; first | trivial | omega | exact ⟨by assumption, by omega⟩ | (simp only [List.length_append, List.length_cons, List.length_nil, List.length_map, List.length_take, List.length_drop, List.length_replicate, List.length_set]; omega)) | (with_reducible refine fact ?_ ?_; first | trivial | exact ⟨rfl, rfl⟩ | kernel_rfl) | with_reducible refine choT (by assumption) ?_ | with_reducible refine choF (by assumption) ?_ | with_reducible refine choF' (by assumption) ?_ | (with_reducible refine altT ?_ ?_; first | omega | (simp only [List.length_append, List.length_cons, List.length_nil, List.length_map, List.length_take, List.length_drop, List.length_replicate, List.length_set]; omega)) | with_reducible refine altF ?_ | with_reducible refine all fun _ => ?_ | with_reducible refine both ?_ ?_ | (with_reducible refine choT ?_ ?_; omega) | (with_reducible refine choF ?_ ?_; omega) | with_reducible refine cho (fun _ => ?_) (fun _ => ?_))
      all_goals
        refine ⟨_, _, _, rfl, retOwn (Sub.refl _ _), ?_, rfl⟩
        simp_all [enB, enR]
  · rename_i h
    refine ⟨_, _, _, rfl, retNil byt (sz := 1) (by decide) (Sub.refl _ _), ?_, rfl⟩
    simp [enB, h]
instance (e : En) : PC Go.Proofs.Try.prog 63 [e.av] True (.lst 1 ((enB e).map byt) .ro) := ⟨fun _ => PC.of (entry_Bytes_ok e)⟩
end Go.Ab

/- An entry read from bytes. No program in sight. -/
set_option linter.unusedVariables false
set_option linter.unusedSimpArgs false
namespace Go.Ab
/-- An entry that stands at the front of bytes, and how many it takes. -/
def parseE (s : List UInt8) : Option (En × Nat) :=
  if s = [] ∨ 1 < (s.getD 0 0).toNat then none
  else if getO (s.drop 1) = false ∨ 1099511627776 < getV (s.drop 1) then none
  else if textO (s.drop (1 + getN (s.drop 1))) = false then none
  else if (s.getD 0 0).toNat = 1 then
    (if right ⟨textV (s.drop (1 + getN (s.drop 1))), [], true, getV (s.drop 1)⟩ = true then some (⟨textV (s.drop (1 + getN (s.drop 1))), [], true, getV (s.drop 1)⟩, 1 + getN (s.drop 1) + textN (s.drop (1 + getN (s.drop 1)))) else none)
  else if textO (s.drop (1 + getN (s.drop 1) + textN (s.drop (1 + getN (s.drop 1))))) = false then none
  else if right ⟨textV (s.drop (1 + getN (s.drop 1))), textV (s.drop (1 + getN (s.drop 1) + textN (s.drop (1 + getN (s.drop 1))))), false, getV (s.drop 1)⟩ = true then
    some (⟨textV (s.drop (1 + getN (s.drop 1))), textV (s.drop (1 + getN (s.drop 1) + textN (s.drop (1 + getN (s.drop 1))))), false, getV (s.drop 1)⟩, 1 + getN (s.drop 1) + textN (s.drop (1 + getN (s.drop 1))) + textN (s.drop (1 + getN (s.drop 1) + textN (s.drop (1 + getN (s.drop 1))))))
  else none
theorem right_min (k v : List UInt8) (d : Bool) (q : Nat) : right ⟨k, v, d, (min q 1099511627777 : Nat)⟩ = (decide (q ≤ 1099511627776) && right ⟨k, v, d, q⟩) := by
  by_cases h : q ≤ 1099511627776
  · rw [Nat.min_eq_left (by omega), decide_eq_true h, Bool.true_and]
  · rw [Nat.min_eq_right (by omega), decide_eq_false h, Bool.false_and]
    simp [right]
section parse
variable {s : List UInt8}
theorem parse_fail1 (h : (!getO (s.drop 1) || !textO (s.drop (1 + getN (s.drop 1)))) = true) : parseE s = none := by
  unfold parseE
  split
  · rfl
  · split
    · rfl
    · rename_i h1 h2
      have : getO (s.drop 1) = true := by
        cases hc : getO (s.drop 1) with
        | true => rfl
        | false => exact absurd (.inl hc) h2
      rw [this] at h
      rw [if_pos (by simpa using h)]
theorem parse_del (h0 : ¬ s.length = 0) (h1 : ¬ 1 < (s.getD 0 default).toNat) (hd : (s.getD 0 default).toNat = 1) (hw : ¬ (!getO (s.drop 1) || !textO (s.drop (1 + getN (s.drop 1)))) = true) :
    parseE s = if right ⟨textV (s.drop (1 + getN (s.drop 1))), [], decide ((s.getD 0 default).toNat = 1), (min (getV (s.drop 1)) 1099511627777 : Nat)⟩ = true then
      some (⟨textV (s.drop (1 + getN (s.drop 1))), [], decide ((s.getD 0 default).toNat = 1), (min (getV (s.drop 1)) 1099511627777 : Nat)⟩, 1 + getN (s.drop 1) + textN (s.drop (1 + getN (s.drop 1)))) else none := by
  have hs : ¬ s = [] := fun e => h0 (by rw [e]; rfl)
  have hw1 : getO (s.drop 1) = true := by cases hc : getO (s.drop 1) <;> simp_all
  have hw2 : textO (s.drop (1 + getN (s.drop 1))) = true := by cases hc : textO (s.drop (1 + getN (s.drop 1))) <;> simp_all
  have hd' : (s.getD 0 0).toNat = 1 := hd
  rw [decide_eq_true hd, right_min, parseE, if_neg (by rw [hd']; simp [hs]), hw1, hw2, if_neg (by decide : ¬ true = false), if_pos hd']
  by_cases hq : getV (s.drop 1) ≤ 1099511627776
  · rw [if_neg (fun hc => hc.elim (by decide) (by omega)), decide_eq_true hq, Bool.true_and, Nat.min_eq_left (by omega)]
  · rw [if_pos (.inr (by omega)), decide_eq_false hq, Bool.false_and, if_neg (by decide)]
theorem parse_fail2 (hd : ¬ (s.getD 0 default).toNat = 1) (h : (!getO (s.drop 1) || !textO (s.drop (1 + getN (s.drop 1))) || !textO (s.drop (1 + getN (s.drop 1) + textN (s.drop (1 + getN (s.drop 1)))))) = true) : parseE s = none := by
  cases hw : (!getO (s.drop 1) || !textO (s.drop (1 + getN (s.drop 1)))) with
  | true => exact parse_fail1 hw
  | false =>
    rw [hw, Bool.false_or] at h
    unfold parseE
    split
    · rfl
    · split
      · rfl
      · split
        · rfl
        · have hd' : ¬ (s.getD 0 0).toNat = 1 := hd
          rw [if_neg hd', if_pos (by simpa using h)]
theorem parse_val (h0 : ¬ s.length = 0) (h1 : ¬ 1 < (s.getD 0 default).toNat) (hd : ¬ (s.getD 0 default).toNat = 1) (hw : ¬ (!getO (s.drop 1) || !textO (s.drop (1 + getN (s.drop 1))) || !textO (s.drop (1 + getN (s.drop 1) + textN (s.drop (1 + getN (s.drop 1)))))) = true) :
    parseE s = if right ⟨textV (s.drop (1 + getN (s.drop 1))), textV (s.drop (1 + getN (s.drop 1) + textN (s.drop (1 + getN (s.drop 1))))), decide ((s.getD 0 default).toNat = 1), (min (getV (s.drop 1)) 1099511627777 : Nat)⟩ = true then
      some (⟨textV (s.drop (1 + getN (s.drop 1))), textV (s.drop (1 + getN (s.drop 1) + textN (s.drop (1 + getN (s.drop 1))))), decide ((s.getD 0 default).toNat = 1), (min (getV (s.drop 1)) 1099511627777 : Nat)⟩, 1 + getN (s.drop 1) + textN (s.drop (1 + getN (s.drop 1))) + textN (s.drop (1 + getN (s.drop 1) + textN (s.drop (1 + getN (s.drop 1)))))) else none := by
  have hs : ¬ s = [] := fun e => h0 (by rw [e]; rfl)
  have hw1 : getO (s.drop 1) = true := by cases hc : getO (s.drop 1) <;> simp_all
  have hw2 : textO (s.drop (1 + getN (s.drop 1))) = true := by cases hc : textO (s.drop (1 + getN (s.drop 1))) <;> simp_all
  have hw3 : textO (s.drop (1 + getN (s.drop 1) + textN (s.drop (1 + getN (s.drop 1))))) = true := by cases hc : textO (s.drop (1 + getN (s.drop 1) + textN (s.drop (1 + getN (s.drop 1))))) <;> simp_all
  have hd' : ¬ (s.getD 0 0).toNat = 1 := hd
  have h1' : ¬ 1 < (s.getD 0 0).toNat := h1
  rw [decide_eq_false hd, right_min, parseE, if_neg (by simp only [hs, false_or]; exact h1'), hw1, hw2, hw3, if_neg (by decide : ¬ true = false), if_neg hd', if_neg (by decide : ¬ true = false)]
  by_cases hq : getV (s.drop 1) ≤ 1099511627776
  · rw [if_neg (fun hc => hc.elim (by decide) (by omega)), decide_eq_true hq, Bool.true_and, Nat.min_eq_left (by omega)]
  · rw [if_pos (.inr (by omega)), decide_eq_false hq, Bool.false_and, if_neg (by decide)]
end parse
def parseV (s : List UInt8) : En := ((parseE s).map (·.1)).getD En.zero
def parseN (s : List UInt8) : Nat := ((parseE s).map (·.2)).getD 0
def parseX (s : List UInt8) : Int := if (parseE s).isSome = true then 0 else 2
end Go.Ab

/- An entry read is the entry written. No program in sight. -/
set_option linter.unusedVariables false
set_option linter.unusedSimpArgs false
namespace Go.Ab
theorem right_b {e : En} (h : right e = true) : 1 ≤ e.key.length ∧ e.key.length ≤ 128 ∧ e.val.length ≤ 1024 ∧ (e.del = true → e.val = []) ∧ 1 ≤ e.seq ∧ e.seq ≤ 1099511627776 := by
  simp [right] at h
  obtain ⟨⟨⟨⟨⟨h1, h2⟩, h3⟩, h4⟩, h5⟩, h6⟩ := h
  have : 1 ≤ e.key.length := List.length_pos_iff.2 h1
  exact ⟨this, by omega, by omega, fun hd => h4.resolve_left (by simp [hd]), h5, h6⟩
theorem parse_put (e : En) (he : right e = true) (rest : List UInt8) : parseE (enR e ++ rest) = some (e, (enR e).length) := by
  obtain ⟨k1, k2, k3, k4, k5, k6⟩ := right_b he
  obtain ⟨key, val, del, seq⟩ := e
  dsimp only at k1 k2 k3 k4 k5 k6
  obtain ⟨q, rfl⟩ : ∃ q : Nat, seq = q := ⟨seq.toNat, by omega⟩
  cases del with
  | true =>
    have hv : val = [] := k4 rfl
    subst hv
    have es : enR ⟨key, [], true, q⟩ ++ rest = 1 :: (put q ++ (put key.length ++ key ++ rest)) := by simp [enR]
    have el : (enR ⟨key, [], true, q⟩).length = 1 + (put q).length + ((put key.length).length + key.length) := by simp [enR]; omega
    have g := getG_put q (put key.length ++ key ++ rest) (by omega)
    have t := textG_put key rest (by omega)
    have gV : getV (put q ++ (put key.length ++ key ++ rest)) = q := by simp only [getV, g]; rfl
    have gN : getN (put q ++ (put key.length ++ key ++ rest)) = (put q).length := by simp only [getN, g]; rfl
    have gO : getO (put q ++ (put key.length ++ key ++ rest)) = true := by simp only [getO, g]; rfl
    have tV : textV (put key.length ++ key ++ rest) = key := by simp only [textV, t]; rfl
    have tN : textN (put key.length ++ key ++ rest) = (put key.length).length + key.length := by simp only [textN, t]; rfl
    have tO : textO (put key.length ++ key ++ rest) = true := by simp only [textO, t]; rfl
    have d1 : ((1 : UInt8) :: (put q ++ (put key.length ++ key ++ rest))).drop 1 = put q ++ (put key.length ++ key ++ rest) := rfl
    have d2 : ((1 : UInt8) :: (put q ++ (put key.length ++ key ++ rest))).drop (1 + (put q).length) = put key.length ++ key ++ rest := by
      rw [Nat.add_comm, List.drop_succ_cons, List.drop_left]
    rw [es, parseE, if_neg (by simp), d1, gO, gV, if_neg (fun hc => hc.elim (by decide) (by omega)), gN, d2, tO, if_neg (by decide), if_pos (by rfl), tV, if_pos he, tN, el]
  | false =>
    have es : enR ⟨key, val, false, q⟩ ++ rest = 0 :: (put q ++ (put key.length ++ key ++ (put val.length ++ val ++ rest))) := by simp [enR]
    have el : (enR ⟨key, val, false, q⟩).length = 1 + (put q).length + ((put key.length).length + key.length) + ((put val.length).length + val.length) := by simp [enR]; omega
    obtain ⟨r, hr⟩ : ∃ r, r = put val.length ++ val ++ rest := ⟨_, rfl⟩
    have t2 := textG_put val rest (by omega)
    rw [← hr] at t2 es
    have g := getG_put q (put key.length ++ key ++ r) (by omega)
    have t := textG_put key r (by omega)
    have gV : getV (put q ++ (put key.length ++ key ++ r)) = q := by simp only [getV, g]; rfl
    have gN : getN (put q ++ (put key.length ++ key ++ r)) = (put q).length := by simp only [getN, g]; rfl
    have gO : getO (put q ++ (put key.length ++ key ++ r)) = true := by simp only [getO, g]; rfl
    have tV : textV (put key.length ++ key ++ r) = key := by simp only [textV, t]; rfl
    have tN : textN (put key.length ++ key ++ r) = (put key.length).length + key.length := by simp only [textN, t]; rfl
    have tO : textO (put key.length ++ key ++ r) = true := by simp only [textO, t]; rfl
    have uV : textV r = val := by simp only [textV, t2]; rfl
    have uN : textN r = (put val.length).length + val.length := by simp only [textN, t2]; rfl
    have uO : textO r = true := by simp only [textO, t2]; rfl
    have d1 : ((0 : UInt8) :: (put q ++ (put key.length ++ key ++ r))).drop 1 = put q ++ (put key.length ++ key ++ r) := rfl
    have d2 : ((0 : UInt8) :: (put q ++ (put key.length ++ key ++ r))).drop (1 + (put q).length) = put key.length ++ key ++ r := by
      rw [Nat.add_comm, List.drop_succ_cons, List.drop_left]
    have d3 : ((0 : UInt8) :: (put q ++ (put key.length ++ key ++ r))).drop (1 + (put q).length + ((put key.length).length + key.length)) = r := by
      rw [← List.drop_drop, d2, ← List.length_append, List.drop_left]
    rw [es, parseE, if_neg (by simp), d1, gO, gV, if_neg (fun hc => hc.elim (by decide) (by omega)), gN, d2, tO, if_neg (by decide), if_neg (by rw [List.getD_cons_zero]; decide), tN, d3, uO, if_neg (by decide), tV, uV, if_pos he, uN, el]
theorem enB_nil {e : En} (h : ¬ right e = true) : enB e = [] := by unfold enB; rw [if_neg h]
theorem enB_right {e : En} (h : right e = true) : enB e = enR e := by unfold enB; rw [if_pos h]
theorem enR_length {e : En} (he : right e = true) : 1 ≤ (enR e).length ∧ (enR e).length ≤ 1200 := by
  obtain ⟨k1, k2, k3, k4, k5, k6⟩ := right_b he
  have p1 := put_len64 (v := e.seq.toNat) (by omega)
  have p2 := put_len64 (v := e.key.length) (by omega)
  have p3 := put_len64 (v := e.val.length) (by omega)
  unfold enR
  split <;> simp only [List.length_append, List.length_cons, List.length_nil] <;> omega
theorem enB_length (e : En) : (enB e).length ≤ 1200 := by
  by_cases h : right e = true
  · rw [enB_right h]; exact (enR_length h).2
  · rw [enB_nil h]; simp
end Go.Ab

/- What is fit for a table; its leaves. -/
set_option linter.unusedVariables false
set_option linter.unusedSimpArgs false
namespace Go.Ab
def table_Fit_1.mark : Mark := ⟨fun t => Nat.beq t 4, fun t => false, fun t => Nat.beq t 1, fun t => Nat.beq t 3, fun t => false⟩
def table_Fit_1.ann : Ann := ⟨fun n => [], fun n => none, fun n => none⟩
/-- 'marlstone/table.Fit$1' -/
def table_Fit_1.sh (a0 : AV) (σ : Store) (Q : AEnd → Store → Prop) : Prop :=
  Do (aFreeze ((a0 : AV)).cells) fun t1 =>
  Do (loadF true 4 t1) fun t3 =>
  Do (aPureC Go.Proofs.Try.prog 61 [t3]) fun t4 =>
  Do (aUn Go.Proofs.Try.prog .not t4) fun t5 =>
  Q (.ret t5) σ
theorem table_Fit_1.eq (a0 : AV) (σ : Store) (Q : AEnd → Store → Prop) : vc (semOf Go.Proofs.Try.prog table_Fit_1.mark) Go.Proofs.Try.f82.ntmps table_Fit_1.ann (bodyOf Go.Proofs.Try.f82) (endK [.tmp 2] Q) (argFr [a0]) σ = table_Fit_1.sh a0 σ Q := by kernel_rfl
theorem table_Fit_1.go {a0 : AV} {σ : Store} {Q : AEnd → Store → Prop} (h : table_Fit_1.sh a0 σ Q) : ACalls Go.Proofs.Try.prog 82 [a0] σ Q :=
  acalls_of_eq [.tmp 2] Go.Proofs.Try.func82 (by kernel_rfl) (by kernel_rfl) (by kernel_rfl) (by kernel_rfl) (table_Fit_1.eq a0 σ Q) h
def table_Fit.mark : Mark := ⟨fun t => Nat.beq t 13 || Nat.beq t 17, fun t => false, fun t => false, fun t => false, fun t => false⟩
def table_Fit.ann : Ann := ⟨fun n => [], fun n => none, fun n => none⟩
/-- 'marlstone/table.Fit' -/
def table_Fit.sh (a0 : AV) (σ : Store) (Q : AEnd → Store → Prop) : Prop :=
  Do (aBuiltin Go.Proofs.Try.prog .len #[22] [a0]) fun t4 =>
  Do (aBin Go.Proofs.Try.prog .gtr 3 t4 (.val (.int .i64 0))) fun t5 =>
  Do (aGuard t5 true (aIs a0)) fun t7 =>
  Do (aGuard t5 true (aBuiltin Go.Proofs.Try.prog .len #[22] [t7])) fun t8 =>
  Do (aGuard t5 true (aBin Go.Proofs.Try.prog .leq 3 t8 (.val (.int .i64 64)))) fun t9 =>
  Do (aPick t5 t9 (.val (.bool false))) fun t10 =>
  Do (aGuard t10 true (aIs a0)) fun t12 =>
  Do (aGuard t10 true (aPureC Go.Proofs.Try.prog 53 [t12])) fun t13 =>
  Do (aPick t10 t13 (.val (.bool false))) fun t14 =>
  Do (aGuard t14 true (aIs a0)) fun t16 =>
  Do (aGuard t14 true (aPureC Go.Proofs.Try.prog 81 [t16, (.val (.func (.func 82) #[] #[]))])) fun t17 =>
  Do (aGuard t14 true (aUn Go.Proofs.Try.prog .not t17)) fun t18 =>
  Do (aPick t14 t18 (.val (.bool false))) fun t19 =>
  Q (.ret t19) σ
theorem table_Fit.eq (a0 : AV) (σ : Store) (Q : AEnd → Store → Prop) : vc (semOf Go.Proofs.Try.prog table_Fit.mark) Go.Proofs.Try.f36.ntmps table_Fit.ann (bodyOf Go.Proofs.Try.f36) (endK [.tmp 2] Q) (argFr [a0]) σ = table_Fit.sh a0 σ Q := by kernel_rfl
theorem table_Fit.go {a0 : AV} {σ : Store} {Q : AEnd → Store → Prop} (h : table_Fit.sh a0 σ Q) : ACalls Go.Proofs.Try.prog 36 [a0] σ Q :=
  acalls_of_eq [.tmp 2] Go.Proofs.Try.func36 (by kernel_rfl) (by kernel_rfl) (by kernel_rfl) (by kernel_rfl) (table_Fit.eq a0 σ Q) h
def table_Leaves.mark : Mark := ⟨fun t => Nat.beq t 14, fun t => false, fun t => false, fun t => Nat.beq t 11, fun t => false⟩
def table_Leaves.ann : Ann := ⟨fun n => bif Nat.beq n 3 then [3, 6, 7, 8] else [], fun n => none, fun n => none⟩
/-- 'marlstone/table.Leaves' -/
def table_Leaves.sh (a0 : AV) (σ : Store) (Q : AEnd → Store → Prop) : Prop :=
  Do (aBuiltin Go.Proofs.Try.prog .len #[22] [a0]) fun t7 =>
  aLoop (fun go vs σ =>
    At vs 0 fun s3 => At vs 1 fun s6 => At vs 2 fun s7 => At vs 3 fun s8 => Do (aBin Go.Proofs.Try.prog .lss 3 s8 s7) fun t9 =>
    aCond t9
      (Do (aIndexAddr .slice 4 s6 s8) fun t10 =>
    Do (loadF true 4 t10) fun t11 =>
    aNewVar 54 [.val (.string ⟨#[]⟩), .val (.string ⟨#[]⟩), .val (.bool false), .val (.int .i64 0)] σ fun t5 σ_1 =>
    storeA 4 t5 t11 σ_1 fun u σ_2 =>
    Do (loadA true 4 t5 σ_2) fun t13 =>
    Do (aPureC Go.Proofs.Try.prog 63 [t13]) fun t14 =>
    Do (aSlLit (mkE [.val (.slice none 0 0)]) 1 1 [(0, t14)]) fun t15 =>
    aAppend 27 1 24 s3 t15 σ_2 (subK fun t16 σ_3 =>
    Do (aBin Go.Proofs.Try.prog .add 3 s8 (.val (.int .i64 1))) fun t17 =>
    go [t16, s6, s7, t17] σ_3))
      (Q (.ret s3) σ))
    [(.val (.slice none 0 0)), a0, t7, (.val (.int .i64 0))] σ
theorem table_Leaves.eq (a0 : AV) (σ : Store) (Q : AEnd → Store → Prop) : vc (semOf Go.Proofs.Try.prog table_Leaves.mark) Go.Proofs.Try.f32.ntmps table_Leaves.ann (bodyOf Go.Proofs.Try.f32) (endK [.tmp 2] Q) (argFr [a0]) σ = table_Leaves.sh a0 σ Q := by kernel_rfl
theorem table_Leaves.go {a0 : AV} {σ : Store} {Q : AEnd → Store → Prop} (h : table_Leaves.sh a0 σ Q) : ACalls Go.Proofs.Try.prog 32 [a0] σ Q :=
  acalls_of_eq [.tmp 2] Go.Proofs.Try.func32 (by kernel_rfl) (by kernel_rfl) (by kernel_rfl) (by kernel_rfl) (table_Leaves.eq a0 σ Q) h
theorem tfit1_ok (e : En) : aPure Go.Proofs.Try.prog 82 [e.av] (B (!right e)) := by
  refine table_Fit_1.go ?_
  unfold table_Fit_1.sh
  repeat' (first | with_reducible apply Stp.go | with_reducible refine imp fun _ => ?_ | (with_reducible refine hyp ?_ ?_; first | assumption | exact leftT_mem (by assumption)) | (with_reducible refine need ?_ ?_; first | trivial | omega | exact ⟨by assumption, by omega⟩ | (simp only [List.length_append, List.length_cons, List.length_nil, List.length_map, List.length_take, List.length_drop, List.length_replicate, List.length_set]; omega)) | (with_reducible refine fact ?_ ?_; first | trivial | exact ⟨rfl, rfl⟩ | kernel_rfl) | with_reducible refine choT (by assumption) ?_ | with_reducible refine choF (by assumption) ?_ | with_reducible refine choF' (by assumption) ?_ | (with_reducible refine altT ?_ ?_; first | omega | (simp only [List.length_append, List.length_cons, List.length_nil, List.length_map, List.length_take, List.length_drop, List.length_replicate, List.length_set]; omega)) | with_reducible refine altF ?_ | with_reducible refine all fun _ => ?_ | with_reducible refine both ?_ ?_ | (with_reducible refine choT ?_ ?_; omega) | (with_reducible refine choF ?_ ?_; omega) | with_reducible refine cho (fun _ => ?_) (fun _ => ?_))
  exact ⟨rfl, rfl⟩
instance (e : En) : PC Go.Proofs.Try.prog 82 [e.av] True (B (!right e)) := ⟨fun _ => PC.of (tfit1_ok e)⟩
theorem tFit_ok (l : List En) (m : SM) (hl : l.length ≤ 1000000000000) : aPure Go.Proofs.Try.prog 36 [.lst 4 (l.map En.av) m] (B (fit l)) := by
  refine table_Fit.go ?_
  unfold table_Fit.sh
  repeat' (first | with_reducible apply Stp.go | with_reducible refine imp fun _ => ?_ | (with_reducible refine hyp ?_ ?_; first | assumption | exact leftT_mem (by assumption)) | (with_reducible refine need ?_ ?_; first | trivial | omega | exact ⟨by assumption, by omega⟩ | (simp only [List.length_append, List.length_cons, List.length_nil, List.length_map, List.length_take, List.length_drop, List.length_replicate, List.length_set]; omega)) | (with_reducible refine fact ?_ ?_; first | trivial | exact ⟨rfl, rfl⟩ | kernel_rfl) | with_reducible refine choT (by assumption) ?_ | with_reducible refine choF (by assumption) ?_ | with_reducible refine choF' (by assumption) ?_ | (with_reducible refine altT ?_ ?_; first | omega | (simp only [List.length_append, List.length_cons, List.length_nil, List.length_map, List.length_take, List.length_drop, List.length_replicate, List.length_set]; omega)) | with_reducible refine altF ?_ | with_reducible refine all fun _ => ?_ | with_reducible refine both ?_ ?_ | (with_reducible refine choT ?_ ?_; omega) | (with_reducible refine choF ?_ ?_; omega) | with_reducible refine cho (fun _ => ?_) (fun _ => ?_))
  · rename_i h1 h2 h
    refine ⟨?_, rfl⟩
    rw [all_right]
    unfold fit
    rw [h, decide_eq_true (show 0 < l.length by omega), decide_eq_true (show l.length ≤ 64 by omega)]
    simp
  · rename_i h1 h2 h
    refine ⟨?_, rfl⟩
    simp [fit, h]
  · rename_i h1 h2
    refine ⟨?_, rfl⟩
    simp [fit, h2]
  · rename_i h1
    refine ⟨?_, rfl⟩
    have : l.length = 0 := by omega
    simp [fit, this]
instance {a : AV} {l : List En} {m : SM} [h : IsL a En.av 4 l m] : PC Go.Proofs.Try.prog 36 [a] (l.length ≤ 1000000000000) (B (fit l)) := ⟨fun hl => ⟨[.lst 4 (l.map En.av) m], ⟨h.sub, trivial⟩, tFit_ok l m hl⟩⟩
instance : ElemF [.val (.slice none 0 0)] (List UInt8) bl := ⟨trivial⟩
abbrev LfT : TypeId := 27
theorem Leaves_ok (l : List En) (m : SM) (hl : l.length ≤ 1000000) : aPure Go.Proofs.Try.prog 32 [.lst 4 (l.map En.av) m] (.lst 1 ((l.map enB).map bl) .ro) := by
  refine ACalls.fin (table_Leaves.go ?_)
  unfold table_Leaves.sh
  repeat' (first | with_reducible apply Stp.go | with_reducible refine imp fun _ => ?_ | (with_reducible refine hyp ?_ ?_; first | assumption | exact leftT_mem (by assumption)) | (with_reducible refine need ?_ ?_; first | trivial | omega | exact ⟨by assumption, by omega⟩ | (simp only [List.length_append, List.length_cons, List.length_nil, List.length_map, List.length_take, List.length_drop, List.length_replicate, List.length_set]; omega)) | (with_reducible refine fact ?_ ?_; first | trivial | exact ⟨rfl, rfl⟩ | kernel_rfl) | with_reducible refine choT (by assumption) ?_ | with_reducible refine choF (by assumption) ?_ | with_reducible refine choF' (by assumption) ?_ | (with_reducible refine altT ?_ ?_; first | omega | (simp only [List.length_append, List.length_cons, List.length_nil, List.length_map, List.length_take, List.length_drop, List.length_replicate, List.length_set]; omega)) | with_reducible refine altF ?_ | with_reducible refine all fun _ => ?_ | with_reducible refine both ?_ ?_ | (with_reducible refine choT ?_ ?_; omega) | (with_reducible refine choF ?_ ?_; omega) | with_reducible refine cho (fun _ => ?_) (fun _ => ?_))
  refine loopI (β := Nat × Value) (fun x => x.1 ≤ l.length) (fun x => [.own x.2 ((l.take x.1).map enB).length, .lst 4 (l.map En.av) m, I .i64 (l.length : Nat), I .i64 (x.1 : Nat)]) (fun x => [.row x.2 LfT 1 (((l.take x.1).map enB).map bl) 0]) (fun x => l.length - x.1) (0, .slice none 0 0) (Nat.zero_le _) (Sub.nil_own LfT (sz := 1) (by decide) [] [] [.lst 4 (l.map En.av) m, I .i64 (l.length : Nat), I .i64 ((0 : Nat) : Int)]) ?_
  rintro ⟨i, v⟩ h1
  dsimp only at h1 ⊢
  by_cases hi : i < l.length
  · have hk : ((l.take i).map enB).length ≤ l.length := by simp; omega
    have e : (l.take (i + 1)).map enB = (l.take i).map enB ++ [enB (l.getD i default)] := by rw [take_succ_d (by omega), List.map_append]; rfl
    repeat' (first | with_reducible apply Stp.go | with_reducible refine imp fun _ => ?_ | (with_reducible refine hyp ?_ ?_; first | assumption | exact leftT_mem (by assumption)) | (with_reducible refine need ?_ ?_; first | trivial | omega | exact ⟨by assumption, by omega⟩ | (simp only [List.length_append, List.length_cons, List.length_nil, List.length_map, List.length_take, List.length_drop, List.length_replicate, List.length_set]; omega)) | (with_reducible refine fact ?_ ?_; first | trivial | exact ⟨rfl, rfl⟩ | kernel_rfl) | with_reducible refine choT (by assumption) ?_ | with_reducible refine choF (by assumption) ?_ | with_reducible refine choF' (by assumption) ?_ | (with_reducible refine altT ?_ ?_; first | omega | (simp only [List.length_append, List.length_cons, List.length_nil, List.length_map, List.length_take, List.length_drop, List.length_replicate, List.length_set]; omega)) | with_reducible refine altF ?_ | with_reducible refine all fun _ => ?_ | with_reducible refine both ?_ ?_ | (with_reducible refine choT ?_ ?_; omega) | (with_reducible refine choF ?_ ?_; omega) | with_reducible refine cho (fun _ => ?_) (fun _ => ?_))
    rename_i w
    refine again (i + 1, w) (by dsimp only; omega) (by dsimp only; omega) ?_
    dsimp only
    rw [e]
    exact Sub.drop_ (List.sublist_cons_self _ _) _
  · have e1 : i = l.length := by omega
    subst e1
    rw [List.take_length]
    repeat' (first | with_reducible apply Stp.go | with_reducible refine imp fun _ => ?_ | (with_reducible refine hyp ?_ ?_; first | assumption | exact leftT_mem (by assumption)) | (with_reducible refine need ?_ ?_; first | trivial | omega | exact ⟨by assumption, by omega⟩ | (simp only [List.length_append, List.length_cons, List.length_nil, List.length_map, List.length_take, List.length_drop, List.length_replicate, List.length_set]; omega)) | (with_reducible refine fact ?_ ?_; first | trivial | exact ⟨rfl, rfl⟩ | kernel_rfl) | with_reducible refine choT (by assumption) ?_ | with_reducible refine choF (by assumption) ?_ | with_reducible refine choF' (by assumption) ?_ | (with_reducible refine altT ?_ ?_; first | omega | (simp only [List.length_append, List.length_cons, List.length_nil, List.length_map, List.length_take, List.length_drop, List.length_replicate, List.length_set]; omega)) | with_reducible refine altF ?_ | with_reducible refine all fun _ => ?_ | with_reducible refine both ?_ ?_ | (with_reducible refine choT ?_ ?_; omega) | (with_reducible refine choF ?_ ?_; omega) | with_reducible refine cho (fun _ => ?_) (fun _ => ?_))
    exact ⟨_, _, _, rfl, retOwn (Sub.refl _ _), rfl, rfl⟩
instance {a : AV} {l : List En} {m : SM} [h : IsL a En.av 4 l m] : PC Go.Proofs.Try.prog 32 [a] (l.length ≤ 1000000) (.lst 1 ((l.map enB).map bl) .ro) := ⟨fun hl => ⟨[.lst 4 (l.map En.av) m], ⟨h.sub, trivial⟩, Leaves_ok l m hl⟩⟩
/-- What is known of a table, as a value. -/
abbrev tabA (lev n : Int) (d : List UInt8) (f g : List UInt8) : AV := .agg (I .i64 lev :: I .i64 n :: (d.map byt ++ [S f, S g]))
def zeroD : List UInt8 := List.replicate 32 0
instance : Len32 zeroD := ⟨by simp [zeroD]⟩
theorem litTab {zs : List AV} {offs : List (Nat × Nat)} {lev n : Int} {d f g : List UInt8} {K : AV → Prop} [hc : Len32 d] (h2 : zs.length = 36) (h3 : offs = [(0, 1), (1, 1), (2, 32), (34, 1), (35, 1)]) (hK : K (tabA lev n d f g)) : Do (aLit zs offs [(0, I .i64 lev), (1, I .i64 n), (2, dgA d), (3, S f), (4, S g)]) K := by
  have hl := hc.len
  refine ⟨_, ⟨?_, I .i64 lev :: I .i64 n :: (d.map byt ++ [S f, S g]), ?_, rfl⟩, hK⟩
  · intro p hp y hy
    simp only [List.mem_cons, List.not_mem_nil, or_false] at hp
    rcases hp with rfl | rfl | rfl | rfl | rfl
    · rw [List.mem_singleton.1 (show y ∈ [I .i64 lev] from hy)]; rfl
    · rw [List.mem_singleton.1 (show y ∈ [I .i64 n] from hy)]; rfl
    · obtain ⟨z, _, rfl⟩ := List.mem_map.1 (show y ∈ d.map byt from hy); rfl
    · rw [List.mem_singleton.1 (show y ∈ [S f] from hy)]; rfl
    · rw [List.mem_singleton.1 (show y ∈ [S g] from hy)]; rfl
  · subst h3
    have e : ∀ (i off s : Nat) (cs : List AV) (v : AV) (rest : List (Nat × AV)) (pl : Nat → Option (Nat × Nat)), pl i = some (off, s) → v.cells.length = s → off + s ≤ cs.length → fillA pl cs ((i, v) :: rest) = fillA pl (splice cs off v.cells) rest := by
      intro i off s cs v rest pl h1 h2 h3
      conv => lhs; unfold fillA
      rw [h1]
      simp only
      rw [if_pos ⟨h2, h3⟩]
    have c3 : (dgA d).cells.length = 32 := by simp [AV.cells, hl]
    rw [e 0 0 1 zs _ _ _ rfl rfl (by omega)]
    have l1 : (splice zs 0 (AV.cells (I .i64 lev))).length = 36 := by rw [splice_length (by simp [AV.cells]; omega)]; exact h2
    rw [e 1 1 1 _ _ _ _ rfl rfl (by omega)]
    have l2 : (splice (splice zs 0 (AV.cells (I .i64 lev))) 1 (AV.cells (I .i64 n))).length = 36 := by rw [splice_length (by rw [l1]; simp [AV.cells])]; exact l1
    rw [e 2 2 32 _ _ _ _ rfl c3 (by omega)]
    have l3 : (splice (splice (splice zs 0 (AV.cells (I .i64 lev))) 1 (AV.cells (I .i64 n))) 2 (AV.cells (dgA d))).length = 36 := by rw [splice_length (by rw [l2, c3]; decide)]; exact l2
    rw [e 3 34 1 _ _ _ _ rfl rfl (by omega)]
    have l4 : (splice (splice (splice (splice zs 0 (AV.cells (I .i64 lev))) 1 (AV.cells (I .i64 n))) 2 (AV.cells (dgA d))) 34 (AV.cells (S f))).length = 36 := by rw [splice_length (by rw [l3]; simp [AV.cells])]; exact l3
    rw [e 4 35 1 _ _ _ _ rfl rfl (by omega)]
    unfold fillA
    congr 1
    have hd : (d.map byt).length = 32 := by simp [hl]
    have ed : AV.cells (dgA d) = d.map byt := rfl
    rw [ed]
    generalize d.map byt = D at hd
    have s1 : splice zs 0 (AV.cells (I .i64 lev)) = I .i64 lev :: zs.drop 1 := by simp [splice, AV.cells]
    rw [s1]
    have s2 : splice (I .i64 lev :: zs.drop 1) 1 (AV.cells (I .i64 n)) = I .i64 lev :: I .i64 n :: zs.drop 2 := by simp [splice, AV.cells]
    rw [s2]
    have s3 : splice (I .i64 lev :: I .i64 n :: zs.drop 2) 2 D = I .i64 lev :: I .i64 n :: (D ++ zs.drop 34) := by simp [splice, hd]
    rw [s3]
    have hz : ∃ x y, zs.drop 34 = [x, y] := by
      have : (zs.drop 34).length = 2 := by simp [h2]
      match zs.drop 34, this with
      | [x, y], _ => exact ⟨x, y, rfl⟩
    obtain ⟨x, y, hz⟩ := hz
    rw [hz]
    have s4 : splice (I .i64 lev :: I .i64 n :: (D ++ [x, y])) 34 (AV.cells (S f)) = I .i64 lev :: I .i64 n :: (D ++ [S f, y]) := by
      have e1 : I .i64 lev :: I .i64 n :: (D ++ [x, y]) = (I .i64 lev :: I .i64 n :: D) ++ [x, y] := rfl
      have e2 : (I .i64 lev :: I .i64 n :: D).length = 34 := by simp [hd]
      rw [e1]
      unfold splice
      rw [List.take_left' e2, List.drop_append, e2, List.drop_of_length_le (by rw [e2]; simp [AV.cells])]
      simp [AV.cells]
    rw [s4]
    have e1 : I .i64 lev :: I .i64 n :: (D ++ [S f, y]) = (I .i64 lev :: I .i64 n :: (D ++ [S f])) ++ [y] := by simp
    have e2 : (I .i64 lev :: I .i64 n :: (D ++ [S f])).length = 35 := by simp [hd]
    rw [e1]
    unfold splice
    rw [List.take_left' e2, List.drop_of_length_le (by rw [List.length_append, e2]; simp [AV.cells])]
    simp [AV.cells]
end Go.Ab

/- What is known of a table. -/
set_option linter.unusedVariables false
set_option linter.unusedSimpArgs false
namespace Go.Ab
section tab
variable {b : Nat} {t : TypeId} {cs : List AV} {lev n : Int} {d f g : List UInt8} {σ rest : Store} {put : Ent → Store} {k : AV → Store → Prop} {K : AV → Prop}
abbrev tabCs (lev n : Int) (d f g : List UInt8) : List AV := I .i64 lev :: I .i64 n :: (d.map byt ++ [S f, S g])
theorem tabCs_len [hc : Len32 d] : (tabCs lev n d f g).length = 36 := by simp [hc.len]
instance (priority := 75) stTab [hc : Len32 d] [hv : VarAt b σ t cs put rest] [hl : LenA cs 36] : Stp (storeA 36 (ptrAt b 0) (tabA lev n d f g) σ k) (k .undef (put (.var b t (tabCs lev n d f g)))) := ⟨fun hK => by
  obtain ⟨σ1, σ2, e, e2, _⟩ := hv.at_
  have h36 := tabCs_len (lev := lev) (n := n) (d := d) (f := f) (g := g)
  refine ⟨h36, fun c hc => ?_, rfl, σ1, σ2, t, cs, e, by rw [hl.eq]; show 0 + 36 ≤ 36; omega, ?_⟩
  · have hc : c ∈ tabCs lev n d f g := hc
    simp only [List.mem_cons, List.mem_append, List.mem_map, List.not_mem_nil, or_false] at hc
    rcases hc with rfl | rfl | ⟨y, _, rfl⟩ | rfl | rfl <;> rfl
  · rw [e2] at hK
    have : splice cs 0 (AV.cells (tabA lev n d f g)) = tabCs lev n d f g := by
      show splice cs 0 (tabCs lev n d f g) = _
      unfold splice
      rw [List.take_zero, List.nil_append, Nat.zero_add, h36, List.drop_of_length_le (by rw [hl.eq]; decide), List.append_nil]
    rw [this]
    exact hK⟩
instance (priority := 75) ldTab [hc : Len32 d] [hv : VarAt b σ t (tabCs lev n d f g) put rest] : Stp (Do (loadA true 36 (ptrAt b 0) σ) K) (K (tabA lev n d f g)) := ⟨fun hK => by
  obtain ⟨σ1, σ2, e, _⟩ := hv.at_
  have h36 := tabCs_len (lev := lev) (n := n) (d := d) (f := f) (g := g)
  refine ⟨_, ⟨by decide, fun h => by (cases h), rfl, t, _, by rw [e]; exact List.mem_append.2 (.inr (List.mem_cons_self ..)), by rw [h36]; show 0 + 36 ≤ 36; omega, ?_⟩, hK⟩
  show _ = mkV true (((tabCs lev n d f g).drop 0).take 36)
  rw [List.drop_zero, List.take_of_length_le (by omega)]
  rfl⟩
end tab
def table_Describe.mark : Mark := ⟨fun t => Nat.beq t 9 || Nat.beq t 25, fun t => false, fun t => Nat.beq t 3, fun t => Nat.beq t 23 || Nat.beq t 30 || Nat.beq t 37, fun t => false⟩
def table_Describe.ann : Ann := ⟨fun n => [], fun n => none, fun n => none⟩
/-- 'marlstone/table.Describe' -/
def table_Describe.sh (a0 a1 a2 : AV) (σ : Store) (Q : AEnd → Store → Prop) : Prop :=
  Do (aFreeze ((a0 : AV)).cells) fun t3 =>
  aNewVar 48 [.val (.int .i64 0), .val (.int .i64 0), .val (.int .u8 0), .val (.int .u8 0), .val (.int .u8 0), .val (.int .u8 0), .val (.int .u8 0), .val (.int .u8 0), .val (.int .u8 0), .val (.int .u8 0), .val (.int .u8 0), .val (.int .u8 0), .val (.int .u8 0), .val (.int .u8 0), .val (.int .u8 0), .val (.int .u8 0), .val (.int .u8 0), .val (.int .u8 0), .val (.int .u8 0), .val (.int .u8 0), .val (.int .u8 0), .val (.int .u8 0), .val (.int .u8 0), .val (.int .u8 0), .val (.int .u8 0), .val (.int .u8 0), .val (.int .u8 0), .val (.int .u8 0), .val (.int .u8 0), .val (.int .u8 0), .val (.int .u8 0), .val (.int .u8 0), .val (.int .u8 0), .val (.int .u8 0), .val (.string ⟨#[]⟩), .val (.string ⟨#[]⟩)] σ fun t6 σ =>
  Do (aPureC Go.Proofs.Try.prog 36 [a2]) fun t9 =>
  Do (aUn Go.Proofs.Try.prog .not t9) fun t10 =>
  Do (aGuard t10 false (aIs a1)) fun t12 =>
  Do (aGuard t10 false (aBin Go.Proofs.Try.prog .lss 3 t12 (.val (.int .i64 0)))) fun t13 =>
  Do (aPick t10 (.val (.bool true)) t13) fun t14 =>
  Do (aGuard t14 false (aIs a1)) fun t16 =>
  Do (aGuard t14 false (aBin Go.Proofs.Try.prog .geq 3 t16 (.val (.int .i64 4)))) fun t17 =>
  Do (aPick t14 (.val (.bool true)) t17) fun t18 =>
  aCond t18
    (Do (aLit [.val (.int .i64 0), .val (.int .i64 0), .val (.int .u8 0), .val (.int .u8 0), .val (.int .u8 0), .val (.int .u8 0), .val (.int .u8 0), .val (.int .u8 0), .val (.int .u8 0), .val (.int .u8 0), .val (.int .u8 0), .val (.int .u8 0), .val (.int .u8 0), .val (.int .u8 0), .val (.int .u8 0), .val (.int .u8 0), .val (.int .u8 0), .val (.int .u8 0), .val (.int .u8 0), .val (.int .u8 0), .val (.int .u8 0), .val (.int .u8 0), .val (.int .u8 0), .val (.int .u8 0), .val (.int .u8 0), .val (.int .u8 0), .val (.int .u8 0), .val (.int .u8 0), .val (.int .u8 0), .val (.int .u8 0), .val (.int .u8 0), .val (.int .u8 0), .val (.int .u8 0), .val (.int .u8 0), .val (.string ⟨#[]⟩), .val (.string ⟨#[]⟩)] [(0, 1), (1, 1), (2, 32), (34, 1), (35, 1)] []) fun t19 =>
    storeA 36 t6 t19 σ fun u σ_1 =>
    Do (loadA true 36 t6 σ_1) fun r6 => Q (.ret (.tuple [r6, (.val (.int .i64 1))])) σ_1)
    (Do (aBuiltin Go.Proofs.Try.prog .len #[22] [a2]) fun t22 =>
  Do (loadF true 1 t3) fun t23 =>
  Do (aPureC Go.Proofs.Try.prog 32 [a2]) fun t25 =>
  Do (aIndexAddr .slice 4 a2 (.val (.int .i64 0))) fun t28 =>
  Do (aFieldAddr 0 1 t28) fun t29 =>
  Do (loadF false 1 t29) fun t30 =>
  Do (aBuiltin Go.Proofs.Try.prog .len #[22] [a2]) fun t33 =>
  Do (aBin Go.Proofs.Try.prog .sub 3 t33 (.val (.int .i64 1))) fun t34 =>
  Do (aIndexAddr .slice 4 a2 t34) fun t35 =>
  Do (aFieldAddr 0 1 t35) fun t36 =>
  Do (loadF false 1 t36) fun t37 =>
  aCall Go.Proofs.Try.prog 62 [t23, t25] σ (fun t26 σ_2 =>
  Do (aLit [.val (.int .i64 0), .val (.int .i64 0), .val (.int .u8 0), .val (.int .u8 0), .val (.int .u8 0), .val (.int .u8 0), .val (.int .u8 0), .val (.int .u8 0), .val (.int .u8 0), .val (.int .u8 0), .val (.int .u8 0), .val (.int .u8 0), .val (.int .u8 0), .val (.int .u8 0), .val (.int .u8 0), .val (.int .u8 0), .val (.int .u8 0), .val (.int .u8 0), .val (.int .u8 0), .val (.int .u8 0), .val (.int .u8 0), .val (.int .u8 0), .val (.int .u8 0), .val (.int .u8 0), .val (.int .u8 0), .val (.int .u8 0), .val (.int .u8 0), .val (.int .u8 0), .val (.int .u8 0), .val (.int .u8 0), .val (.int .u8 0), .val (.int .u8 0), .val (.int .u8 0), .val (.int .u8 0), .val (.string ⟨#[]⟩), .val (.string ⟨#[]⟩)] [(0, 1), (1, 1), (2, 32), (34, 1), (35, 1)] [(0, a1), (1, t22), (2, t26), (3, t30), (4, t37)]) fun t38 =>
  storeA 36 t6 t38 σ_2 fun u_1 σ_3 =>
  Do (loadA true 36 t6 σ_3) fun r6_1 => Q (.ret (.tuple [r6_1, (.val (.int .i64 0))])) σ_3) (fun e σ_4 => Q (.pan e) σ_4))
theorem table_Describe.eq (a0 a1 a2 : AV) (σ : Store) (Q : AEnd → Store → Prop) : vc (semOf Go.Proofs.Try.prog table_Describe.mark) Go.Proofs.Try.f30.ntmps table_Describe.ann (bodyOf Go.Proofs.Try.f30) (endK [.cell 6 true 36, .tmp 7] Q) (argFr [a0, a1, a2]) σ = table_Describe.sh a0 a1 a2 σ Q := by kernel_rfl
theorem table_Describe.go {a0 a1 a2 : AV} {σ : Store} {Q : AEnd → Store → Prop} (h : table_Describe.sh a0 a1 a2 σ Q) : ACalls Go.Proofs.Try.prog 30 [a0, a1, a2] σ Q :=
  acalls_of_eq [.cell 6 true 36, .tmp 7] Go.Proofs.Try.func30 (by kernel_rfl) (by kernel_rfl) (by kernel_rfl) (by kernel_rfl) (table_Describe.eq a0 a1 a2 σ Q) h
/-- What is known of a table, part by part. -/
def dFit (lev : Nat) (l : List En) : Bool := fit l && decide (lev < 4)
def dErr (lev : Nat) (l : List En) : Nat := if dFit lev l = true then 0 else 1
def dLev (lev : Nat) (l : List En) : Nat := if dFit lev l = true then lev else 0
def dCnt (lev : Nat) (l : List En) : Nat := if dFit lev l = true then l.length else 0
def dRoot (b : Int) (lev : Nat) (l : List En) : List UInt8 := if dFit lev l = true then rootD b (l.map enB) else zeroD
def dFst (lev : Nat) (l : List En) : List UInt8 := if dFit lev l = true then (l.getD 0 default).key else []
def dLst (lev : Nat) (l : List En) : List UInt8 := if dFit lev l = true then (l.getD (l.length - 1) default).key else []
theorem Describe_ok (b : Int) (lev : Nat) (l : List En) (m : SM) (hl : l.length ≤ 1000000) (hv : lev ≤ 1000) : aPure Go.Proofs.Try.prog 30 [trA b, I .i64 (lev : Nat), .lst 4 (l.map En.av) m] (.tuple [tabA (dLev lev l : Nat) (dCnt lev l : Nat) (dRoot b lev l) (dFst lev l) (dLst lev l), I .i64 (dErr lev l : Nat)]) := by
  refine ACalls.fin (table_Describe.go ?_)
  unfold table_Describe.sh
  have hb : (l.map enB).length ≤ 1000000 ∧ ∀ b ∈ l.map enB, b.length ≤ 100000000000000 := ⟨by simpa using hl, fun b h => by
    obtain ⟨e, _, rfl⟩ := List.mem_map.1 h
    have := enB_length e
    omega⟩
  by_cases hf : dFit lev l = true
  · have h1 := hf
    unfold dFit at h1
    simp only [Bool.and_eq_true, decide_eq_true_eq] at h1
    obtain ⟨hfit, h4⟩ := h1
    have h0 : 0 < l.length := (fit_right hfit).2.1
    unfold dLev dCnt dRoot dFst dLst dErr
    simp only [if_pos hf]
    repeat' (first | with_reducible apply Stp.go | with_reducible refine imp fun _ => ?_ | (with_reducible refine hyp ?_ ?_; first | assumption | exact leftT_mem (by assumption)) | (with_reducible refine need ?_ ?_; first | trivial | omega | exact ⟨by assumption, by omega⟩ | (simp only [List.length_append, List.length_cons, List.length_nil, List.length_map, List.length_take, List.length_drop, List.length_replicate, List.length_set]; omega)) | (with_reducible refine fact ?_ ?_; first | trivial | exact ⟨rfl, rfl⟩ | kernel_rfl) | with_reducible refine choT (by assumption) ?_ | with_reducible refine choF (by assumption) ?_ | with_reducible refine choF' (by assumption) ?_ | (with_reducible refine altT ?_ ?_; first | omega | (simp only [List.length_append, List.length_cons, List.length_nil, List.length_map, List.length_take, List.length_drop, List.length_replicate, List.length_set]; omega)) | with_reducible refine altF ?_ | with_reducible refine all fun _ => ?_ | with_reducible refine both ?_ ?_ | (with_reducible refine choT ?_ ?_; omega) | (with_reducible refine choF ?_ ?_; omega) | with_reducible refine cho (fun _ => ?_) (fun _ => ?_))
    refine litTab rfl rfl ?_
    repeat' (first | with_reducible apply Stp.go | with_reducible refine imp fun _ => ?_ | (with_reducible refine hyp ?_ ?_; first | assumption | exact leftT_mem (by assumption)) | (with_reducible refine need ?_ ?_; first | trivial | omega | exact ⟨by assumption, by omega⟩ | (simp only [List.length_append, List.length_cons, List.length_nil, List.length_map, List.length_take, List.length_drop, List.length_replicate, List.length_set]; omega)) | (with_reducible refine fact ?_ ?_; first | trivial | exact ⟨rfl, rfl⟩ | kernel_rfl) | with_reducible refine choT (by assumption) ?_ | with_reducible refine choF (by assumption) ?_ | with_reducible refine choF' (by assumption) ?_ | (with_reducible refine altT ?_ ?_; first | omega | (simp only [List.length_append, List.length_cons, List.length_nil, List.length_map, List.length_take, List.length_drop, List.length_replicate, List.length_set]; omega)) | with_reducible refine altF ?_ | with_reducible refine all fun _ => ?_ | with_reducible refine both ?_ ?_ | (with_reducible refine choT ?_ ?_; omega) | (with_reducible refine choF ?_ ?_; omega) | with_reducible refine cho (fun _ => ?_) (fun _ => ?_))
    exact ⟨_, _, _, rfl, Sub.app_nil _, rfl, rfl⟩
  · unfold dLev dCnt dRoot dFst dLst dErr
    simp only [if_neg hf]
    have hcon : ¬ (fit l = true ∧ lev < 4) := by
      intro h
      apply hf
      unfold dFit
      rw [h.1, decide_eq_true h.2]; rfl
    repeat' (first | with_reducible apply Stp.go | with_reducible refine imp fun _ => ?_ | (with_reducible refine hyp ?_ ?_; first | assumption | exact leftT_mem (by assumption)) | (with_reducible refine need ?_ ?_; first | trivial | omega | exact ⟨by assumption, by omega⟩ | (simp only [List.length_append, List.length_cons, List.length_nil, List.length_map, List.length_take, List.length_drop, List.length_replicate, List.length_set]; omega)) | (with_reducible refine fact ?_ ?_; first | trivial | exact ⟨rfl, rfl⟩ | kernel_rfl) | with_reducible refine choT (by assumption) ?_ | with_reducible refine choF (by assumption) ?_ | with_reducible refine choF' (by assumption) ?_ | (with_reducible refine altT ?_ ?_; first | omega | (simp only [List.length_append, List.length_cons, List.length_nil, List.length_map, List.length_take, List.length_drop, List.length_replicate, List.length_set]; omega)) | with_reducible refine altF ?_ | with_reducible refine all fun _ => ?_ | with_reducible refine both ?_ ?_ | (with_reducible refine choT ?_ ?_; omega) | (with_reducible refine choF ?_ ?_; omega) | with_reducible refine cho (fun _ => ?_) (fun _ => ?_))
    all_goals first
      | (exfalso; apply hcon; refine ⟨?_, ?_⟩ <;> first | assumption | omega)
      | (refine (stTab (lev := 0) (n := 0) (d := zeroD) (f := []) (g := [])).go ?_
         repeat' (first | with_reducible apply Stp.go | with_reducible refine imp fun _ => ?_ | (with_reducible refine hyp ?_ ?_; first | assumption | exact leftT_mem (by assumption)) | (with_reducible refine need ?_ ?_; first | trivial | omega | exact ⟨by assumption, by omega⟩ | (simp only [List.length_append, List.length_cons, List.length_nil, List.length_map, List.length_take, List.length_drop, List.length_replicate, List.length_set]; omega)) | (with_reducible refine fact ?_ ?_; first | trivial | exact ⟨rfl, rfl⟩ | kernel_rfl) | with_reducible refine choT (by assumption) ?_ | with_reducible refine choF (by assumption) ?_ | with_reducible refine choF' (by assumption) ?_ | (with_reducible refine altT ?_ ?_; first | omega | (simp only [List.length_append, List.length_cons, List.length_nil, List.length_map, List.length_take, List.length_drop, List.length_replicate, List.length_set]; omega)) | with_reducible refine altF ?_ | with_reducible refine all fun _ => ?_ | with_reducible refine both ?_ ?_ | (with_reducible refine choT ?_ ?_; omega) | (with_reducible refine choF ?_ ?_; omega) | with_reducible refine cho (fun _ => ?_) (fun _ => ?_))
         exact ⟨_, _, _, rfl, Sub.app_nil _, rfl, rfl⟩)
      | trace_state
instance {a : AV} {l : List En} {m : SM} {b : Int} {lev : Nat} {x : Int} [h : IsL a En.av 4 l m] [hx : NatOf x lev] : PC Go.Proofs.Try.prog 30 [trA b, .val (.int .i64 x), a] (l.length ≤ 1000000 ∧ lev ≤ 1000) (.tuple [tabA (dLev lev l : Nat) (dCnt lev l : Nat) (dRoot b lev l) (dFst lev l) (dLst lev l), I .i64 (dErr lev l : Nat)]) := ⟨fun hl => by
  rw [hx.eq]
  exact ⟨[trA b, I .i64 (lev : Nat), .lst 4 (l.map En.av) m], ⟨SubV.refl _, SubV.refl _, h.sub, trivial⟩, Describe_ok b lev l m hl.1 hl.2⟩⟩
end Go.Ab

/- Folds, and places of keys. -/
set_option linter.unusedVariables false
set_option linter.unusedSimpArgs false
namespace Go.Ab
def entry_Find.mark : Mark := ⟨fun t => false, fun t => false, fun t => false, fun t => Nat.beq t 15, fun t => false⟩
def entry_Find.ann : Ann := ⟨fun n => bif Nat.beq n 3 then [1, 6, 7, 10, 11, 12] else [], fun n => bif Nat.beq n 7 then some [1, 6, 7, 9, 10, 11, 12] else none, fun n => none⟩
/-- 'marlstone/entry.Find' -/
def entry_Find.sh (a0 a1 : AV) (σ : Store) (Q : AEnd → Store → Prop) : Prop :=
  Do (aBuiltin Go.Proofs.Try.prog .len #[22] [a0]) fun t11 =>
  aLoop (fun go vs σ =>
    At vs 0 fun s1 => At vs 1 fun s6 => At vs 2 fun s7 => At vs 3 fun s10 => At vs 4 fun s11 => At vs 5 fun s12 => Do (aBin Go.Proofs.Try.prog .lss 3 s12 s11) fun t13 =>
    aCond t13
      (Do (aIndexAddr .slice 4 s10 s12) fun t14 =>
    Do (loadF true 4 t14) fun t15 =>
    aNewVar 54 [.val (.string ⟨#[]⟩), .val (.string ⟨#[]⟩), .val (.bool false), .val (.int .i64 0)] σ fun t9 σ_1 =>
    storeA 4 t9 t15 σ_1 fun u σ_2 =>
    aJoin (fun j =>
      Do (aFieldAddr 0 1 t9) fun t16 =>
      Do (loadA false 1 t16 σ_2) fun t17 =>
      Do (aBin Go.Proofs.Try.prog .lss 9 t17 s1) fun t19 =>
      aCond t19
        (Do (aBin Go.Proofs.Try.prog .add 3 s6 (.val (.int .i64 1))) fun t21 =>
        j [s1, t21, s7, t9, s10, s11, s12] σ_2)
        (j [s1, s6, s7, t9, s10, s11, s12] σ_2)) fun vs_1 σ_3 =>
    At vs_1 0 fun s1_1 => At vs_1 1 fun s6_1 => At vs_1 2 fun s7_1 => At vs_1 3 fun s9 => At vs_1 4 fun s10_1 => At vs_1 5 fun s11_1 => At vs_1 6 fun s12_1 => Do (aGuard s7_1 false (aFieldAddr 0 1 s9)) fun t24 =>
    Do (aGuard s7_1 false (loadA false 1 t24 σ_3)) fun t25 =>
    Do (aGuard s7_1 false (aIs s1_1)) fun t26 =>
    Do (aGuard s7_1 false (aBin Go.Proofs.Try.prog .eql 9 t25 t26)) fun t27 =>
    Do (aPick s7_1 (.val (.bool true)) t27) fun t28 =>
    Do (aBin Go.Proofs.Try.prog .add 3 s12_1 (.val (.int .i64 1))) fun t29 =>
    go [s1_1, s6_1, t28, s10_1, s11_1, t29] σ_3)
      (Q (.ret (.tuple [s6, s7])) σ))
    [a1, (.val (.int .i64 0)), (.val (.bool false)), a0, t11, (.val (.int .i64 0))] σ
theorem entry_Find.eq (a0 a1 : AV) (σ : Store) (Q : AEnd → Store → Prop) : vc (semOf Go.Proofs.Try.prog entry_Find.mark) Go.Proofs.Try.f31.ntmps entry_Find.ann (bodyOf Go.Proofs.Try.f31) (endK [.tmp 4, .tmp 5] Q) (argFr [a0, a1]) σ = entry_Find.sh a0 a1 σ Q := by kernel_rfl
theorem entry_Find.go {a0 a1 : AV} {σ : Store} {Q : AEnd → Store → Prop} (h : entry_Find.sh a0 a1 σ Q) : ACalls Go.Proofs.Try.prog 31 [a0, a1] σ Q :=
  acalls_of_eq [.tmp 4, .tmp 5] Go.Proofs.Try.func31 (by kernel_rfl) (by kernel_rfl) (by kernel_rfl) (by kernel_rfl) (entry_Find.eq a0 a1 σ Q) h
def ref03_Find.mark : Mark := ⟨fun t => false, fun t => false, fun t => false, fun t => Nat.beq t 19 || Nat.beq t 30, fun t => false⟩
def ref03_Find.ann : Ann := ⟨fun n => bif Nat.beq n 4 then [0, 1, 6, 7, 8] else [], fun n => bif Nat.beq n 8 then some [0, 1, 6, 7, 8] else none, fun n => none⟩
theorem Find_ok (l : List En) (m : SM) (k : List UInt8) (hl : l.length ≤ 1000000000000) : aPure Go.Proofs.Try.prog 31 [.lst 4 (l.map En.av) m, S k] (.tuple [I .i64 (placeN l k : Nat), B (hasK l k)]) := by
  refine entry_Find.go ?_
  unfold entry_Find.sh
  repeat' (first | with_reducible apply Stp.go | with_reducible refine imp fun _ => ?_ | (with_reducible refine hyp ?_ ?_; first | assumption | exact leftT_mem (by assumption)) | (with_reducible refine need ?_ ?_; first | trivial | omega | exact ⟨by assumption, by omega⟩ | (simp only [List.length_append, List.length_cons, List.length_nil, List.length_map, List.length_take, List.length_drop, List.length_replicate, List.length_set]; omega)) | (with_reducible refine fact ?_ ?_; first | trivial | exact ⟨rfl, rfl⟩ | kernel_rfl) | with_reducible refine choT (by assumption) ?_ | with_reducible refine choF (by assumption) ?_ | with_reducible refine choF' (by assumption) ?_ | (with_reducible refine altT ?_ ?_; first | omega | (simp only [List.length_append, List.length_cons, List.length_nil, List.length_map, List.length_take, List.length_drop, List.length_replicate, List.length_set]; omega)) | with_reducible refine altF ?_ | with_reducible refine all fun _ => ?_ | with_reducible refine both ?_ ?_ | (with_reducible refine choT ?_ ?_; omega) | (with_reducible refine choF ?_ ?_; omega) | with_reducible refine cho (fun _ => ?_) (fun _ => ?_))
  refine loopI (β := Nat) (fun i => i ≤ l.length) (fun i => [S k, I .i64 (placeN (l.take i) k : Nat), B (hasK (l.take i) k), .lst 4 (l.map En.av) m, I .i64 (l.length : Nat), I .i64 (i : Nat)]) (fun _ => []) (fun i => l.length - i) 0 (Nat.zero_le _) (Sub.refl _ _) ?_
  intro i hi
  have hp := placeN_le (l.take i) k
  have hp2 : (l.take i).length ≤ l.length := by simp; omega
  by_cases hlt : i < l.length
  · have e1 := placeN_snoc (l.take i) (l.getD i default) k
    have e2 := hasK_snoc (l.take i) (l.getD i default) k
    rw [← take_succ_d hlt] at e1 e2
    repeat' (first | with_reducible apply Stp.go | with_reducible refine imp fun _ => ?_ | (with_reducible refine hyp ?_ ?_; first | assumption | exact leftT_mem (by assumption)) | (with_reducible refine need ?_ ?_; first | trivial | omega | exact ⟨by assumption, by omega⟩ | (simp only [List.length_append, List.length_cons, List.length_nil, List.length_map, List.length_take, List.length_drop, List.length_replicate, List.length_set]; omega)) | (with_reducible refine fact ?_ ?_; first | trivial | exact ⟨rfl, rfl⟩ | kernel_rfl) | with_reducible refine choT (by assumption) ?_ | with_reducible refine choF (by assumption) ?_ | with_reducible refine choF' (by assumption) ?_ | (with_reducible refine altT ?_ ?_; first | omega | (simp only [List.length_append, List.length_cons, List.length_nil, List.length_map, List.length_take, List.length_drop, List.length_replicate, List.length_set]; omega)) | with_reducible refine altF ?_ | with_reducible refine all fun _ => ?_ | with_reducible refine both ?_ ?_ | (with_reducible refine choT ?_ ?_; omega) | (with_reducible refine choF ?_ ?_; omega) | with_reducible refine cho (fun _ => ?_) (fun _ => ?_))
    refine joinE ?_
    repeat' (first | with_reducible apply Stp.go | with_reducible refine imp fun _ => ?_ | (with_reducible refine hyp ?_ ?_; first | assumption | exact leftT_mem (by assumption)) | (with_reducible refine need ?_ ?_; first | trivial | omega | exact ⟨by assumption, by omega⟩ | (simp only [List.length_append, List.length_cons, List.length_nil, List.length_map, List.length_take, List.length_drop, List.length_replicate, List.length_set]; omega)) | (with_reducible refine fact ?_ ?_; first | trivial | exact ⟨rfl, rfl⟩ | kernel_rfl) | with_reducible refine choT (by assumption) ?_ | with_reducible refine choF (by assumption) ?_ | with_reducible refine choF' (by assumption) ?_ | (with_reducible refine altT ?_ ?_; first | omega | (simp only [List.length_append, List.length_cons, List.length_nil, List.length_map, List.length_take, List.length_drop, List.length_replicate, List.length_set]; omega)) | with_reducible refine altF ?_ | with_reducible refine all fun _ => ?_ | with_reducible refine both ?_ ?_ | (with_reducible refine choT ?_ ?_; omega) | (with_reducible refine choF ?_ ?_; omega) | with_reducible refine cho (fun _ => ?_) (fun _ => ?_))
    all_goals
      refine again (i + 1) (by omega) (by omega) ?_
      simp_all
      exact Sub.app_nil _
  · have e : l.take i = l := List.take_of_length_le (by omega)
    rw [e]
    repeat' (first | with_reducible apply Stp.go | with_reducible refine imp fun _ => ?_ | (with_reducible refine hyp ?_ ?_; first | assumption | exact leftT_mem (by assumption)) | (with_reducible refine need ?_ ?_; first | trivial | omega | exact ⟨by assumption, by omega⟩ | (simp only [List.length_append, List.length_cons, List.length_nil, List.length_map, List.length_take, List.length_drop, List.length_replicate, List.length_set]; omega)) | (with_reducible refine fact ?_ ?_; first | trivial | exact ⟨rfl, rfl⟩ | kernel_rfl) | with_reducible refine choT (by assumption) ?_ | with_reducible refine choF (by assumption) ?_ | with_reducible refine choF' (by assumption) ?_ | (with_reducible refine altT ?_ ?_; first | omega | (simp only [List.length_append, List.length_cons, List.length_nil, List.length_map, List.length_take, List.length_drop, List.length_replicate, List.length_set]; omega)) | with_reducible refine altF ?_ | with_reducible refine all fun _ => ?_ | with_reducible refine both ?_ ?_ | (with_reducible refine choT ?_ ?_; omega) | (with_reducible refine choF ?_ ?_; omega) | with_reducible refine cho (fun _ => ?_) (fun _ => ?_))
    exact ⟨rfl, rfl⟩
instance {a : AV} {l : List En} {m : SM} {k : List UInt8} [h : IsL a En.av 4 l m] : PC Go.Proofs.Try.prog 31 [a, S k] (l.length ≤ 1000000000000) (.tuple [I .i64 (placeN l k : Nat), B (hasK l k)]) := ⟨fun hl => ⟨[.lst 4 (l.map En.av) m, S k], ⟨h.sub, SubVs.refl _⟩, Find_ok l m k hl⟩⟩
end Go.Ab

/- How long a block is. No program in sight. -/
set_option linter.unusedVariables false
set_option linter.unusedSimpArgs false
namespace Go.Ab
/-- Entries, folded, those that are right, as many as a block has. -/
def fitL (l : List En) : List En := ((foldE l).filter right).take 64
theorem fitL_fit {l : List En} (h : 0 < (fitL l).length) : fit (fitL l) = true := by
  have hr : Rises (fitL l) := ((foldE_rises l).sublist (List.filter_sublist)).sublist (List.take_sublist _ _)
  have ha : (fitL l).all right = true := by
    rw [List.all_eq_true]
    intro e he
    exact (List.mem_filter.1 (List.mem_of_mem_take he)).2
  have hl : (fitL l).length ≤ 64 := by unfold fitL; simp; omega
  unfold fit
  rw [decide_eq_true h, decide_eq_true hl, (sorted_iff _).2 hr, ha]
  rfl
end Go.Ab

/- A key's place in a rising list, halved out; a block is read as it was written. No program in sight. -/
set_option linter.unusedVariables false
set_option linter.unusedSimpArgs false
namespace Go.Ab
theorem place_at {l : List En} (hr : Rises l) (k : List UInt8) : ∀ {i : Nat}, i < l.length → (lt (l.getD i default).key k = true ↔ i < placeN l k) := by
  induction l with
  | nil => intro i h; simp at h
  | cons y l ih =>
    obtain ⟨h1, h2⟩ := List.pairwise_cons.1 hr
    intro i hi
    cases hlt : lt y.key k with
    | true =>
      rw [place_cons hlt]
      cases i with
      | zero => simp [hlt]
      | succ i =>
        rw [List.getD_cons_succ, ih h2 (by simpa using hi)]
        omega
    | false =>
      rw [place_zero hr hlt]
      refine ⟨fun h => ?_, fun h => by omega⟩
      exfalso
      cases i with
      | zero => rw [List.getD_cons_zero, hlt] at h; cases h
      | succ i =>
        rw [List.getD_cons_succ] at h
        have hi' : i < l.length := by simpa using hi
        have hm : l.getD i default ∈ l := by rw [List.getD_eq_getElem?_getD, List.getElem?_eq_getElem hi']; exact List.getElem_mem _
        have := lt_trans' (h1 _ hm) h
        rw [this] at hlt; cases hlt
theorem has_place {l : List En} (hr : Rises l) (k : List UInt8) : hasK l k = (decide (placeN l k < l.length) && decide ((l.getD (placeN l k) default).key = k)) := by
  cases h : hasK l k with
  | true =>
    obtain ⟨a, b⟩ := place_lt hr h
    rw [decide_eq_true a, decide_eq_true b]; rfl
  | false =>
    by_cases h1 : placeN l k < l.length
    · by_cases h2 : (l.getD (placeN l k) default).key = k
      · exfalso
        unfold hasK at h
        rw [List.any_eq_false] at h
        refine h (l.getD (placeN l k) default) ?_ (by simpa using h2)
        rw [List.getD_eq_getElem?_getD, List.getElem?_eq_getElem h1]; exact List.getElem_mem _
      · rw [decide_eq_false h2, Bool.and_false]
    · rw [decide_eq_false h1, Bool.false_and]
theorem cmpK_lt (a b : List UInt8) : cmpK a b < 0 ↔ lt a b = true := by
  have := cmpK_neg a b
  cases h : lt a b with
  | true => rw [h] at this; refine ⟨fun _ => rfl, fun _ => ?_⟩; have : ¬ 0 ≤ cmpK a b := fun c => by have := this.1 c; cases this
            omega
  | false => have := this.2 h; exact ⟨fun c => by omega, fun c => by cases c⟩
theorem cmpK_zero (a b : List UInt8) : cmpK a b = 0 ↔ a = b := by
  unfold cmpK
  split
  · rename_i h
    exact ⟨fun c => by omega, fun c => by rw [c, lt_irrefl] at h; cases h⟩
  · split
    · rename_i h; exact ⟨fun _ => h, fun _ => rfl⟩
    · rename_i h; exact ⟨fun c => by omega, fun c => absurd c h⟩
theorem compare_cmpK : ∀ a b : List UInt8, Lib.compareBytes a b = cmpK a b
  | [], [] => by simp [Lib.compareBytes, cmpK, lt, Op.bytesLess]
  | [], y :: b => by simp [Lib.compareBytes, cmpK, lt, Op.bytesLess]
  | x :: a, [] => by simp [Lib.compareBytes, cmpK, lt, Op.bytesLess]
  | x :: a, y :: b => by
    have ih := compare_cmpK a b
    unfold Lib.compareBytes cmpK
    unfold cmpK at ih
    by_cases h1 : x < y
    · have h2 : lt (x :: a) (y :: b) = true := by simp [lt, Op.bytesLess, h1]
      simp [h1, h2]
    · by_cases h3 : x = y
      · subst h3
        have h4 : lt (x :: a) (x :: b) = lt a b := by simp [lt, Op.bytesLess]
        have h5 : ¬ x < x := UInt8.lt_irrefl x
        rw [h4]
        simp only [h5, if_false, List.cons.injEq, true_and]
        exact ih
      · have h6 : y < x := UInt8.lt_of_le_of_ne (UInt8.not_lt.1 h1) (Ne.symm h3)
        have h2 : lt (x :: a) (y :: b) = false := by simp [lt, Op.bytesLess, h1, h3]
        simp [h1, h6, h2, h3]
end Go.Ab

/- A place halved out. -/
set_option linter.unusedVariables false
set_option linter.unusedSimpArgs false
namespace Go.Ab
theorem cmpstring_ok (a b : List UInt8) : aPureC Go.Proofs.Try.prog 126 [S a, S b] (I .i64 (cmpK a b)) := by
  refine .inr ⟨[.string ⟨a.toArray⟩, .string ⟨b.toArray⟩], .int .i64 (cmpK a b), rfl, rfl, fun w => ?_⟩
  rw [run_callFunc_extern Go.Proofs.Try.func126 (by kernel_rfl) (by kernel_rfl) (by kernel_rfl) (e := Extern.BytealgCompare.compare) (by kernel_rfl)]
  rw [show ([Value.string ⟨a.toArray⟩, Value.string ⟨b.toArray⟩] : List Value).toArray = #[.string ⟨a.toArray⟩, .string ⟨b.toArray⟩] from rfl, Lib.run_compareString, compare_cmpK]
  rfl
instance (a b : List UInt8) : XC Go.Proofs.Try.prog 126 [S a, S b] (I .i64 (cmpK a b)) := ⟨cmpstring_ok a b⟩
def internal_bytealg_CompareString.mark : Mark := ⟨fun t => Nat.beq t 7, fun t => false, fun t => false, fun t => false, fun t => false⟩
def internal_bytealg_CompareString.ann : Ann := ⟨fun n => [], fun n => none, fun n => none⟩
/-- 'internal/bytealg.CompareString' -/
def internal_bytealg_CompareString.sh (a0 a1 : AV) (σ : Store) (Q : AEnd → Store → Prop) : Prop :=
  Do (aPureC Go.Proofs.Try.prog 126 [a0, a1]) fun t7 =>
  Q (.ret t7) σ
theorem internal_bytealg_CompareString.eq (a0 a1 : AV) (σ : Store) (Q : AEnd → Store → Prop) : vc (semOf Go.Proofs.Try.prog internal_bytealg_CompareString.mark) Go.Proofs.Try.f107.ntmps internal_bytealg_CompareString.ann (bodyOf Go.Proofs.Try.f107) (endK [.tmp 4] Q) (argFr [a0, a1]) σ = internal_bytealg_CompareString.sh a0 a1 σ Q := by kernel_rfl
theorem internal_bytealg_CompareString.go {a0 a1 : AV} {σ : Store} {Q : AEnd → Store → Prop} (h : internal_bytealg_CompareString.sh a0 a1 σ Q) : ACalls Go.Proofs.Try.prog 107 [a0, a1] σ Q :=
  acalls_of_eq [.tmp 4] Go.Proofs.Try.func107 (by kernel_rfl) (by kernel_rfl) (by kernel_rfl) (by kernel_rfl) (internal_bytealg_CompareString.eq a0 a1 σ Q) h
def strings_Compare.mark : Mark := ⟨fun t => Nat.beq t 7, fun t => false, fun t => false, fun t => false, fun t => false⟩
def strings_Compare.ann : Ann := ⟨fun n => [], fun n => none, fun n => none⟩
/-- 'strings.Compare' -/
def strings_Compare.sh (a0 a1 : AV) (σ : Store) (Q : AEnd → Store → Prop) : Prop :=
  Do (aPureC Go.Proofs.Try.prog 107 [a0, a1]) fun t7 =>
  Q (.ret t7) σ
theorem strings_Compare.eq (a0 a1 : AV) (σ : Store) (Q : AEnd → Store → Prop) : vc (semOf Go.Proofs.Try.prog strings_Compare.mark) Go.Proofs.Try.f85.ntmps strings_Compare.ann (bodyOf Go.Proofs.Try.f85) (endK [.tmp 4] Q) (argFr [a0, a1]) σ = strings_Compare.sh a0 a1 σ Q := by kernel_rfl
theorem strings_Compare.go {a0 a1 : AV} {σ : Store} {Q : AEnd → Store → Prop} (h : strings_Compare.sh a0 a1 σ Q) : ACalls Go.Proofs.Try.prog 85 [a0, a1] σ Q :=
  acalls_of_eq [.tmp 4] Go.Proofs.Try.func85 (by kernel_rfl) (by kernel_rfl) (by kernel_rfl) (by kernel_rfl) (strings_Compare.eq a0 a1 σ Q) h
def slices_BinarySearchFunc.mark : Mark := ⟨fun t => Nat.beq t 30 || Nat.beq t 46, fun t => false, fun t => false, fun t => Nat.beq t 28 || Nat.beq t 44, fun t => false⟩
def slices_BinarySearchFunc.ann : Ann := ⟨fun n => bif Nat.beq n 3 then [0, 1, 2, 8, 9, 10] else [], fun n => none, fun n => none⟩
/-- 'slices.BinarySearchFunc[[]marlstone/api.Entry,marlstone/api.Entry,string]' -/
def slices_BinarySearchFunc.sh (a0 a1 a2 : AV) (σ : Store) (Q : AEnd → Store → Prop) : Prop :=
  Do (aBuiltin Go.Proofs.Try.prog .len #[22] [a0]) fun t13 =>
  aLoop (fun go vs σ =>
    At vs 0 fun s0 => At vs 1 fun s1 => At vs 2 fun s2 => At vs 3 fun s8 => At vs 4 fun s9 => At vs 5 fun s10 => Do (aBin Go.Proofs.Try.prog .lss 3 s9 s10) fun t17 =>
    aCond t17
      (Do (aBin Go.Proofs.Try.prog .add 3 s9 s10) fun t20 =>
    Do (fun x => aConvN 3 149 t20 x Go.Proofs.Try.prog) fun t21 =>
    Do (aBin Go.Proofs.Try.prog .shr 149 t21 (W64 1)) fun t22 =>
    Do (fun x => aConvN 149 3 t22 x Go.Proofs.Try.prog) fun t23 =>
    Do (aIndexAddr .slice 4 s0 t23) fun t27 =>
    Do (loadF true 4 t27) fun t28 =>
    Do (aPureV Go.Proofs.Try.prog s2 [t28, s1]) fun t30 =>
    Do (aBin Go.Proofs.Try.prog .lss 3 t30 (.val (.int .i64 0))) fun t31 =>
    aCond t31
      (Do (aBin Go.Proofs.Try.prog .add 3 t23 (.val (.int .i64 1))) fun t33 =>
      go [s0, s1, s2, s8, t33, s10] σ)
      (go [s0, s1, s2, s8, s9, t23] σ))
      (Do (aBin Go.Proofs.Try.prog .lss 3 s9 s8) fun t38 =>
  Do (aGuard t38 true (aIs s2)) fun t40 =>
  Do (aGuard t38 true (aIs s0)) fun t41 =>
  Do (aGuard t38 true (aIs s9)) fun t42 =>
  Do (aGuard t38 true (aIndexAddr .slice 4 t41 t42)) fun t43 =>
  Do (aGuard t38 true (loadF true 4 t43)) fun t44 =>
  Do (aGuard t38 true (aIs s1)) fun t45 =>
  Do (aGuard t38 true (aPureV Go.Proofs.Try.prog t40 [t44, t45])) fun t46 =>
  Do (aGuard t38 true (aBin Go.Proofs.Try.prog .eql 3 t46 (.val (.int .i64 0)))) fun t47 =>
  Do (aPick t38 t47 (.val (.bool false))) fun t48 =>
  Q (.ret (.tuple [s9, t48])) σ))
    [a0, a1, a2, t13, (.val (.int .i64 0)), t13] σ
theorem slices_BinarySearchFunc.eq (a0 a1 a2 : AV) (σ : Store) (Q : AEnd → Store → Prop) : vc (semOf Go.Proofs.Try.prog slices_BinarySearchFunc.mark) Go.Proofs.Try.f83.ntmps slices_BinarySearchFunc.ann (bodyOf Go.Proofs.Try.f83) (endK [.tmp 6, .tmp 7] Q) (argFr [a0, a1, a2]) σ = slices_BinarySearchFunc.sh a0 a1 a2 σ Q := by kernel_rfl
theorem slices_BinarySearchFunc.go {a0 a1 a2 : AV} {σ : Store} {Q : AEnd → Store → Prop} (h : slices_BinarySearchFunc.sh a0 a1 a2 σ Q) : ACalls Go.Proofs.Try.prog 83 [a0, a1, a2] σ Q :=
  acalls_of_eq [.tmp 6, .tmp 7] Go.Proofs.Try.func83 (by kernel_rfl) (by kernel_rfl) (by kernel_rfl) (by kernel_rfl) (slices_BinarySearchFunc.eq a0 a1 a2 σ Q) h
theorem CompareString_ok (a b : List UInt8) : aPure Go.Proofs.Try.prog 107 [S a, S b] (I .i64 (cmpK a b)) := by
  refine internal_bytealg_CompareString.go ?_
  unfold internal_bytealg_CompareString.sh
  repeat' (first | with_reducible apply Stp.go | with_reducible refine imp fun _ => ?_ | (with_reducible refine hyp ?_ ?_; first | assumption | exact leftT_mem (by assumption)) | (with_reducible refine need ?_ ?_; first | trivial | omega | exact ⟨by assumption, by omega⟩ | (simp only [List.length_append, List.length_cons, List.length_nil, List.length_map, List.length_take, List.length_drop, List.length_replicate, List.length_set]; omega)) | (with_reducible refine fact ?_ ?_; first | trivial | exact ⟨rfl, rfl⟩ | kernel_rfl) | with_reducible refine choT (by assumption) ?_ | with_reducible refine choF (by assumption) ?_ | with_reducible refine choF' (by assumption) ?_ | (with_reducible refine altT ?_ ?_; first | omega | (simp only [List.length_append, List.length_cons, List.length_nil, List.length_map, List.length_take, List.length_drop, List.length_replicate, List.length_set]; omega)) | with_reducible refine altF ?_ | with_reducible refine all fun _ => ?_ | with_reducible refine both ?_ ?_ | (with_reducible refine choT ?_ ?_; omega) | (with_reducible refine choF ?_ ?_; omega) | with_reducible refine cho (fun _ => ?_) (fun _ => ?_))
  exact ⟨rfl, rfl⟩
instance (a b : List UInt8) : PC Go.Proofs.Try.prog 107 [S a, S b] True (I .i64 (cmpK a b)) := ⟨fun _ => PC.of (CompareString_ok a b)⟩
theorem strings_Compare_ok (a b : List UInt8) : aPure Go.Proofs.Try.prog 85 [S a, S b] (I .i64 (cmpK a b)) := by
  refine strings_Compare.go ?_
  unfold strings_Compare.sh
  repeat' (first | with_reducible apply Stp.go | with_reducible refine imp fun _ => ?_ | (with_reducible refine hyp ?_ ?_; first | assumption | exact leftT_mem (by assumption)) | (with_reducible refine need ?_ ?_; first | trivial | omega | exact ⟨by assumption, by omega⟩ | (simp only [List.length_append, List.length_cons, List.length_nil, List.length_map, List.length_take, List.length_drop, List.length_replicate, List.length_set]; omega)) | (with_reducible refine fact ?_ ?_; first | trivial | exact ⟨rfl, rfl⟩ | kernel_rfl) | with_reducible refine choT (by assumption) ?_ | with_reducible refine choF (by assumption) ?_ | with_reducible refine choF' (by assumption) ?_ | (with_reducible refine altT ?_ ?_; first | omega | (simp only [List.length_append, List.length_cons, List.length_nil, List.length_map, List.length_take, List.length_drop, List.length_replicate, List.length_set]; omega)) | with_reducible refine altF ?_ | with_reducible refine all fun _ => ?_ | with_reducible refine both ?_ ?_ | (with_reducible refine choT ?_ ?_; omega) | (with_reducible refine choF ?_ ?_; omega) | with_reducible refine cho (fun _ => ?_) (fun _ => ?_))
  exact ⟨rfl, rfl⟩
instance (a b : List UInt8) : PC Go.Proofs.Try.prog 85 [S a, S b] True (I .i64 (cmpK a b)) := ⟨fun _ => PC.of (strings_Compare_ok a b)⟩
theorem half_ok {n : Nat} (h : n < 18446744073709551616) : (UInt64.ofNat n >>> UInt64.ofNat 1).toNat = n / 2 := by
  rw [UInt64.toNat_shiftRight, u64_len h]
  simp [Nat.shiftRight_eq_div_pow]
theorem Search_ok (l : List En) (m : SM) (k : List UInt8) (g : FuncId) (hg : ∀ e : En, aPure Go.Proofs.Try.prog g [e.av, S k] (I .i64 (cmpK e.key k))) (hr : Rises l) (hl : l.length ≤ 1000000000000) :
    aPure Go.Proofs.Try.prog 83 [.lst 4 (l.map En.av) m, S k, .val (.func (.func g) #[] #[])] (.tuple [I .i64 (placeN l k : Nat), B (hasK l k)]) := by
  have inst : ∀ e : En, PC Go.Proofs.Try.prog g [e.av, S k] True (I .i64 (cmpK e.key k)) := fun e => ⟨fun _ => PC.of (hg e)⟩
  refine slices_BinarySearchFunc.go ?_
  unfold slices_BinarySearchFunc.sh
  have hp := placeN_le l k
  repeat' (first | with_reducible apply Stp.go | with_reducible refine imp fun _ => ?_ | (with_reducible refine hyp ?_ ?_; first | assumption | exact leftT_mem (by assumption)) | (with_reducible refine need ?_ ?_; first | trivial | omega | exact ⟨by assumption, by omega⟩ | (simp only [List.length_append, List.length_cons, List.length_nil, List.length_map, List.length_take, List.length_drop, List.length_replicate, List.length_set]; omega)) | (with_reducible refine fact ?_ ?_; first | trivial | exact ⟨rfl, rfl⟩ | kernel_rfl) | with_reducible refine choT (by assumption) ?_ | with_reducible refine choF (by assumption) ?_ | with_reducible refine choF' (by assumption) ?_ | (with_reducible refine altT ?_ ?_; first | omega | (simp only [List.length_append, List.length_cons, List.length_nil, List.length_map, List.length_take, List.length_drop, List.length_replicate, List.length_set]; omega)) | with_reducible refine altF ?_ | with_reducible refine all fun _ => ?_ | with_reducible refine both ?_ ?_ | (with_reducible refine choT ?_ ?_; omega) | (with_reducible refine choF ?_ ?_; omega) | with_reducible refine cho (fun _ => ?_) (fun _ => ?_))
  refine loopI (β := Nat × Nat) (fun x => x.1 ≤ placeN l k ∧ placeN l k ≤ x.2 ∧ x.2 ≤ l.length) (fun x => [.lst 4 (l.map En.av) m, S k, .val (.func (.func g) #[] #[]), I .i64 (l.length : Nat), I .i64 (x.1 : Nat), I .i64 (x.2 : Nat)]) (fun _ => []) (fun x => x.2 - x.1) (0, l.length) ⟨Nat.zero_le _, hp, Nat.le_refl _⟩ (Sub.refl _ _) ?_
  rintro ⟨i, j⟩ ⟨h1, h2, h3⟩
  dsimp only at h1 h2 h3 ⊢
  have hh := half_ok (n := i + j) (by omega)
  repeat' (first | with_reducible apply Stp.go | with_reducible refine imp fun _ => ?_ | (with_reducible refine hyp ?_ ?_; first | assumption | exact leftT_mem (by assumption)) | (with_reducible refine need ?_ ?_; first | trivial | omega | exact ⟨by assumption, by omega⟩ | (simp only [List.length_append, List.length_cons, List.length_nil, List.length_map, List.length_take, List.length_drop, List.length_replicate, List.length_set]; omega)) | (with_reducible refine fact ?_ ?_; first | trivial | exact ⟨rfl, rfl⟩ | kernel_rfl) | with_reducible refine choT (by assumption) ?_ | with_reducible refine choF (by assumption) ?_ | with_reducible refine choF' (by assumption) ?_ | (with_reducible refine altT ?_ ?_; first | omega | (simp only [List.length_append, List.length_cons, List.length_nil, List.length_map, List.length_take, List.length_drop, List.length_replicate, List.length_set]; omega)) | with_reducible refine altF ?_ | with_reducible refine all fun _ => ?_ | with_reducible refine both ?_ ?_ | (with_reducible refine choT ?_ ?_; omega) | (with_reducible refine choF ?_ ?_; omega) | with_reducible refine cho (fun _ => ?_) (fun _ => ?_))
  · rename_i h4 h5
    rw [hh] at h5 ⊢
    rw [cmpK_lt, place_at hr k (by omega)] at h5
    exact again ((i + j) / 2 + 1, j) (by dsimp only; omega) ⟨by dsimp only; omega, h2, h3⟩ (Sub.refl _ _)
  · rename_i h4 h5
    rw [hh] at h5 ⊢
    rw [cmpK_lt, place_at hr k (by omega)] at h5
    exact again (i, (i + j) / 2) (by dsimp only; omega) ⟨h1, by dsimp only; omega, by dsimp only; omega⟩ (Sub.refl _ _)
  · rename_i h4 h5
    have e : i = placeN l k := by omega
    subst e
    have e2 : decide (cmpK (l.getD (placeN l k) default).key k = 0) = hasK l k := by
      rw [has_place hr k, decide_eq_true h5, Bool.true_and]
      simp only [cmpK_zero]
    rw [e2]
    exact ⟨rfl, rfl⟩
  · rename_i h4 h5
    have e : i = placeN l k := by omega
    have e2 : hasK l k = false := by rw [has_place hr k, decide_eq_false (by omega), Bool.false_and]
    rw [e, e2]
    exact ⟨rfl, rfl⟩
end Go.Ab

/- Ends, places and openings of a table. -/
set_option linter.unusedVariables false
set_option linter.unusedSimpArgs false
namespace Go.Ab
section more
variable {P : Program} {b n : Nat} {t : TypeId} {cs cs' : List AV} {lev cnt : Int} {d f g : List UInt8} {σ rest : Store} {put : Ent → Store} {k : AV → Store → Prop} {K : AV → Prop}
instance (sz : Nat) (l : List AV) (m : SM) : One (.lst sz l m) := ⟨rfl⟩
instance (priority := 50) stWhole [hv : VarAt b σ t cs put rest] [hl : LenC cs n] [hl' : LenC cs' n] [ho : Ones cs'] : Stp (storeA n (ptrAt b 0) (.agg cs') σ k) (k .undef (put (.var b t cs'))) := ⟨fun hK => by
  obtain ⟨σ1, σ2, e, e2, _⟩ := hv.at_
  refine ⟨hl'.eq, fun c hc => ho.ones c hc, rfl, σ1, σ2, t, cs, e, by rw [hl.eq]; show 0 + n ≤ n; omega, ?_⟩
  rw [e2] at hK
  have : splice cs 0 (AV.cells (.agg cs')) = cs' := by
    show splice cs 0 cs' = _
    unfold splice
    rw [List.take_zero, List.nil_append, Nat.zero_add, hl'.eq, List.drop_of_length_le (by rw [hl.eq]; omega), List.append_nil]
  rw [this]
  exact hK⟩
instance (priority := 50) ldWhole [hv : VarAt b σ t cs put rest] [hl : LenC cs n] : Stp (Do (loadA true n (ptrAt b 0) σ) K) (Need (0 < n) (K (.agg cs))) := ⟨fun ⟨h0, hK⟩ => by
  obtain ⟨σ1, σ2, e, _⟩ := hv.at_
  refine ⟨_, ⟨h0, fun h => by (cases h), rfl, t, cs, by rw [e]; simp, by rw [hl.eq]; show 0 + n ≤ n; omega, ?_⟩, hK⟩
  show _ = mkV true ((cs.drop 0).take n)
  rw [List.drop_zero, List.take_of_length_le (by rw [hl.eq]; omega)]
  rfl⟩
instance (priority := 75) faTab2 [hd : Len32 d] : Stp (Do (aFieldAddr 2 32 (.rptr (tabCs lev cnt d f g))) K) (K (.rptr (d.map byt))) := ⟨fun hK => ⟨_, ⟨by decide, by simp [hd.len], by
  have h : (d.map byt).length = 32 := by simp [hd.len]
  show _ = AV.rptr ((d.map byt ++ [S f, S g]).take 32)
  rw [List.take_left' h]⟩, hK⟩⟩
instance (priority := 75) faTab3 [hd : Len32 d] : Stp (Do (aFieldAddr 34 1 (.rptr (tabCs lev cnt d f g))) K) (K (.rptr [S f])) := ⟨fun hK => ⟨_, ⟨by decide, by simp [hd.len], by
  have h : (d.map byt).length = 32 := by simp [hd.len]
  show _ = AV.rptr (((d.map byt ++ [S f, S g]).drop 32).take 1)
  rw [List.drop_left' h]; rfl⟩, hK⟩⟩
instance (priority := 75) faTab4 [hd : Len32 d] : Stp (Do (aFieldAddr 35 1 (.rptr (tabCs lev cnt d f g))) K) (K (.rptr [S g])) := ⟨fun hK => ⟨_, ⟨by decide, by simp [hd.len], by
  have h : (d.map byt).length = 32 := by simp [hd.len]
  show _ = AV.rptr (((d.map byt ++ [S f, S g]).drop (32 + 1)).take 1)
  rw [← List.drop_drop, List.drop_left' h]; rfl⟩, hK⟩⟩
end more
def seek_Covers.mark : Mark := ⟨fun t => false, fun t => false, fun t => Nat.beq t 2, fun t => Nat.beq t 6 || Nat.beq t 12, fun t => false⟩
def seek_Covers.ann : Ann := ⟨fun n => [], fun n => none, fun n => none⟩
/-- 'marlstone/seek.Covers' -/
def seek_Covers.sh (a0 a1 : AV) (σ : Store) (Q : AEnd → Store → Prop) : Prop :=
  Do (aFreeze ((a0 : AV)).cells) fun t2 =>
  Do (aFieldAddr 34 1 t2) fun t5 =>
  Do (loadF false 1 t5) fun t6 =>
  Do (aBin Go.Proofs.Try.prog .leq 9 t6 a1) fun t8 =>
  Do (aGuard t8 true (aIs a1)) fun t10 =>
  Do (aGuard t8 true (aFieldAddr 35 1 t2)) fun t11 =>
  Do (aGuard t8 true (loadF false 1 t11)) fun t12 =>
  Do (aGuard t8 true (aBin Go.Proofs.Try.prog .leq 9 t10 t12)) fun t13 =>
  Do (aPick t8 t13 (.val (.bool false))) fun t14 =>
  Q (.ret t14) σ
theorem seek_Covers.eq (a0 a1 : AV) (σ : Store) (Q : AEnd → Store → Prop) : vc (semOf Go.Proofs.Try.prog seek_Covers.mark) Go.Proofs.Try.f18.ntmps seek_Covers.ann (bodyOf Go.Proofs.Try.f18) (endK [.tmp 4] Q) (argFr [a0, a1]) σ = seek_Covers.sh a0 a1 σ Q := by kernel_rfl
theorem seek_Covers.go {a0 a1 : AV} {σ : Store} {Q : AEnd → Store → Prop} (h : seek_Covers.sh a0 a1 σ Q) : ACalls Go.Proofs.Try.prog 18 [a0, a1] σ Q :=
  acalls_of_eq [.tmp 4] Go.Proofs.Try.func18 (by kernel_rfl) (by kernel_rfl) (by kernel_rfl) (by kernel_rfl) (seek_Covers.eq a0 a1 σ Q) h
def seek_below.mark : Mark := ⟨fun t => false, fun t => false, fun t => false, fun t => false, fun t => false⟩
def seek_below.ann : Ann := ⟨fun n => [], fun n => none, fun n => none⟩
/-- 'marlstone/seek.below' -/
def seek_below.sh (a0 a1 : AV) (σ : Store) (Q : AEnd → Store → Prop) : Prop :=
  Do (aBin Go.Proofs.Try.prog .eql 9 a1 (.val (.string ⟨#[]⟩))) fun t6 =>
  Do (aGuard t6 false (aIs a0)) fun t8 =>
  Do (aGuard t6 false (aIs a1)) fun t9 =>
  Do (aGuard t6 false (aBin Go.Proofs.Try.prog .lss 9 t8 t9)) fun t10 =>
  Do (aPick t6 (.val (.bool true)) t10) fun t11 =>
  Q (.ret t11) σ
theorem seek_below.eq (a0 a1 : AV) (σ : Store) (Q : AEnd → Store → Prop) : vc (semOf Go.Proofs.Try.prog seek_below.mark) Go.Proofs.Try.f43.ntmps seek_below.ann (bodyOf Go.Proofs.Try.f43) (endK [.tmp 4] Q) (argFr [a0, a1]) σ = seek_below.sh a0 a1 σ Q := by kernel_rfl
theorem seek_below.go {a0 a1 : AV} {σ : Store} {Q : AEnd → Store → Prop} (h : seek_below.sh a0 a1 σ Q) : ACalls Go.Proofs.Try.prog 43 [a0, a1] σ Q :=
  acalls_of_eq [.tmp 4] Go.Proofs.Try.func43 (by kernel_rfl) (by kernel_rfl) (by kernel_rfl) (by kernel_rfl) (seek_below.eq a0 a1 σ Q) h
def seek_Overlaps.mark : Mark := ⟨fun t => Nat.beq t 9 || Nat.beq t 20, fun t => false, fun t => Nat.beq t 3, fun t => Nat.beq t 12 || Nat.beq t 18, fun t => false⟩
def seek_Overlaps.ann : Ann := ⟨fun n => [], fun n => none, fun n => none⟩
/-- 'marlstone/seek.Overlaps' -/
def seek_Overlaps.sh (a0 a1 a2 : AV) (σ : Store) (Q : AEnd → Store → Prop) : Prop :=
  Do (aFreeze ((a0 : AV)).cells) fun t3 =>
  Do (aPureC Go.Proofs.Try.prog 43 [a1, a2]) fun t9 =>
  Do (aGuard t9 true (aFieldAddr 35 1 t3)) fun t11 =>
  Do (aGuard t9 true (loadF false 1 t11)) fun t12 =>
  Do (aGuard t9 true (aIs a1)) fun t13 =>
  Do (aGuard t9 true (aBin Go.Proofs.Try.prog .geq 9 t12 t13)) fun t14 =>
  Do (aPick t9 t14 (.val (.bool false))) fun t15 =>
  Do (aGuard t15 true (aFieldAddr 34 1 t3)) fun t17 =>
  Do (aGuard t15 true (loadF false 1 t17)) fun t18 =>
  Do (aGuard t15 true (aIs a2)) fun t19 =>
  Do (aGuard t15 true (aPureC Go.Proofs.Try.prog 43 [t18, t19])) fun t20 =>
  Do (aPick t15 t20 (.val (.bool false))) fun t21 =>
  Q (.ret t21) σ
theorem seek_Overlaps.eq (a0 a1 a2 : AV) (σ : Store) (Q : AEnd → Store → Prop) : vc (semOf Go.Proofs.Try.prog seek_Overlaps.mark) Go.Proofs.Try.f20.ntmps seek_Overlaps.ann (bodyOf Go.Proofs.Try.f20) (endK [.tmp 6] Q) (argFr [a0, a1, a2]) σ = seek_Overlaps.sh a0 a1 a2 σ Q := by kernel_rfl
theorem seek_Overlaps.go {a0 a1 a2 : AV} {σ : Store} {Q : AEnd → Store → Prop} (h : seek_Overlaps.sh a0 a1 a2 σ Q) : ACalls Go.Proofs.Try.prog 20 [a0, a1, a2] σ Q :=
  acalls_of_eq [.tmp 6] Go.Proofs.Try.func20 (by kernel_rfl) (by kernel_rfl) (by kernel_rfl) (by kernel_rfl) (seek_Overlaps.eq a0 a1 a2 σ Q) h
def seek_place_1.mark : Mark := ⟨fun t => Nat.beq t 8, fun t => false, fun t => Nat.beq t 2, fun t => Nat.beq t 6, fun t => false⟩
def seek_place_1.ann : Ann := ⟨fun n => [], fun n => none, fun n => none⟩
/-- 'marlstone/seek.place$1' -/
def seek_place_1.sh (a0 a1 : AV) (σ : Store) (Q : AEnd → Store → Prop) : Prop :=
  Do (aFreeze ((a0 : AV)).cells) fun t2 =>
  Do (aFieldAddr 0 1 t2) fun t5 =>
  Do (loadF false 1 t5) fun t6 =>
  Do (aPureC Go.Proofs.Try.prog 85 [t6, a1]) fun t8 =>
  Q (.ret t8) σ
theorem seek_place_1.eq (a0 a1 : AV) (σ : Store) (Q : AEnd → Store → Prop) : vc (semOf Go.Proofs.Try.prog seek_place_1.mark) Go.Proofs.Try.f84.ntmps seek_place_1.ann (bodyOf Go.Proofs.Try.f84) (endK [.tmp 4] Q) (argFr [a0, a1]) σ = seek_place_1.sh a0 a1 σ Q := by kernel_rfl
theorem seek_place_1.go {a0 a1 : AV} {σ : Store} {Q : AEnd → Store → Prop} (h : seek_place_1.sh a0 a1 σ Q) : ACalls Go.Proofs.Try.prog 84 [a0, a1] σ Q :=
  acalls_of_eq [.tmp 4] Go.Proofs.Try.func84 (by kernel_rfl) (by kernel_rfl) (by kernel_rfl) (by kernel_rfl) (seek_place_1.eq a0 a1 σ Q) h
def seek_place.mark : Mark := ⟨fun t => Nat.beq t 8, fun t => false, fun t => false, fun t => false, fun t => false⟩
def seek_place.ann : Ann := ⟨fun n => [], fun n => none, fun n => none⟩
/-- 'marlstone/seek.place' -/
def seek_place.sh (a0 a1 : AV) (σ : Store) (Q : AEnd → Store → Prop) : Prop :=
  Do (aPureC Go.Proofs.Try.prog 83 [a0, a1, (.val (.func (.func 84) #[] #[]))]) fun t8 =>
  Do (aExt t8 0) fun t9 =>
  Do (aExt t8 1) fun t10 =>
  Q (.ret (.tuple [t9, t10])) σ
theorem seek_place.eq (a0 a1 : AV) (σ : Store) (Q : AEnd → Store → Prop) : vc (semOf Go.Proofs.Try.prog seek_place.mark) Go.Proofs.Try.f37.ntmps seek_place.ann (bodyOf Go.Proofs.Try.f37) (endK [.tmp 4, .tmp 5] Q) (argFr [a0, a1]) σ = seek_place.sh a0 a1 σ Q := by kernel_rfl
theorem seek_place.go {a0 a1 : AV} {σ : Store} {Q : AEnd → Store → Prop} (h : seek_place.sh a0 a1 σ Q) : ACalls Go.Proofs.Try.prog 37 [a0, a1] σ Q :=
  acalls_of_eq [.tmp 4, .tmp 5] Go.Proofs.Try.func37 (by kernel_rfl) (by kernel_rfl) (by kernel_rfl) (by kernel_rfl) (seek_place.eq a0 a1 σ Q) h
def seek_opens.mark : Mark := ⟨fun t => false, fun t => false, fun t => Nat.beq t 3, fun t => Nat.beq t 10 || Nat.beq t 20, fun t => false⟩
def seek_opens.ann : Ann := ⟨fun n => [], fun n => none, fun n => none⟩
/-- 'marlstone/seek.opens' -/
def seek_opens.sh (a0 a1 a2 : AV) (σ : Store) (Q : AEnd → Store → Prop) : Prop :=
  Do (aFreeze ((a0 : AV)).cells) fun t3 =>
  aNewVar 30 [.val (.int .i64 0), .val (.slice none 0 0), .val (.slice none 0 0)] σ fun t6 σ =>
  Do (loadF true 1 t3) fun t10 =>
  aCall Go.Proofs.Try.prog 86 [t10, a1, a2] σ (fun t13 σ_1 =>
  Do (aExt t13 0) fun t14 =>
  Do (aExt t13 1) fun t15 =>
  Do (aIndexAddr .slice 1 a1 a2) fun t19 =>
  Do (loadF false 1 t19) fun t20 =>
  Do (aLit [.val (.int .i64 0), .val (.slice none 0 0), .val (.slice none 0 0)] [(0, 1), (1, 1), (2, 1)] [(0, a2), (1, t20), (2, t14)]) fun t22 =>
  storeA 3 t6 t22 σ_1 fun u σ_2 =>
  Do (loadA true 3 t6 σ_2) fun r6 => Q (.ret r6) σ_2) (fun e σ_3 => Q (.pan e) σ_3)
theorem seek_opens.eq (a0 a1 a2 : AV) (σ : Store) (Q : AEnd → Store → Prop) : vc (semOf Go.Proofs.Try.prog seek_opens.mark) Go.Proofs.Try.f38.ntmps seek_opens.ann (bodyOf Go.Proofs.Try.f38) (endK [.cell 6 true 3] Q) (argFr [a0, a1, a2]) σ = seek_opens.sh a0 a1 a2 σ Q := by kernel_rfl
theorem seek_opens.go {a0 a1 a2 : AV} {σ : Store} {Q : AEnd → Store → Prop} (h : seek_opens.sh a0 a1 a2 σ Q) : ACalls Go.Proofs.Try.prog 38 [a0, a1, a2] σ Q :=
  acalls_of_eq [.cell 6 true 3] Go.Proofs.Try.func38 (by kernel_rfl) (by kernel_rfl) (by kernel_rfl) (by kernel_rfl) (seek_opens.eq a0 a1 a2 σ Q) h
def belowB (k hi : List UInt8) : Bool := decide (hi = []) || lt k hi
theorem below_ok (k hi : List UInt8) : aPure Go.Proofs.Try.prog 43 [S k, S hi] (B (belowB k hi)) := by
  refine seek_below.go ?_
  unfold seek_below.sh
  repeat' (first | with_reducible apply Stp.go | with_reducible refine imp fun _ => ?_ | (with_reducible refine hyp ?_ ?_; first | assumption | exact leftT_mem (by assumption)) | (with_reducible refine need ?_ ?_; first | trivial | omega | exact ⟨by assumption, by omega⟩ | (simp only [List.length_append, List.length_cons, List.length_nil, List.length_map, List.length_take, List.length_drop, List.length_replicate, List.length_set]; omega)) | (with_reducible refine fact ?_ ?_; first | trivial | exact ⟨rfl, rfl⟩ | kernel_rfl) | with_reducible refine choT (by assumption) ?_ | with_reducible refine choF (by assumption) ?_ | with_reducible refine choF' (by assumption) ?_ | (with_reducible refine altT ?_ ?_; first | omega | (simp only [List.length_append, List.length_cons, List.length_nil, List.length_map, List.length_take, List.length_drop, List.length_replicate, List.length_set]; omega)) | with_reducible refine altF ?_ | with_reducible refine all fun _ => ?_ | with_reducible refine both ?_ ?_ | (with_reducible refine choT ?_ ?_; omega) | (with_reducible refine choF ?_ ?_; omega) | with_reducible refine cho (fun _ => ?_) (fun _ => ?_))
  · rename_i h
    refine ⟨?_, rfl⟩
    rw [belowB, decide_eq_true h]; rfl
  · rename_i h
    refine ⟨?_, rfl⟩
    rw [belowB, decide_eq_false h]; rfl
instance {k hi : List UInt8} : PC Go.Proofs.Try.prog 43 [S k, S hi] True (B (belowB k hi)) := ⟨fun _ => PC.of (below_ok k hi)⟩
def coversB (f g k : List UInt8) : Bool := (lt f k || decide (f = k)) && (lt k g || decide (k = g))
theorem Covers_ok (lev n : Int) (d f g k : List UInt8) [hd : Len32 d] : aPure Go.Proofs.Try.prog 18 [tabA lev n d f g, S k] (B (coversB f g k)) := by
  refine ACalls.fin (seek_Covers.go ?_)
  unfold seek_Covers.sh
  repeat' (first | with_reducible apply Stp.go | with_reducible refine imp fun _ => ?_ | (with_reducible refine hyp ?_ ?_; first | assumption | exact leftT_mem (by assumption)) | (with_reducible refine need ?_ ?_; first | trivial | omega | exact ⟨by assumption, by omega⟩ | (simp only [List.length_append, List.length_cons, List.length_nil, List.length_map, List.length_take, List.length_drop, List.length_replicate, List.length_set]; omega)) | (with_reducible refine fact ?_ ?_; first | trivial | exact ⟨rfl, rfl⟩ | kernel_rfl) | with_reducible refine choT (by assumption) ?_ | with_reducible refine choF (by assumption) ?_ | with_reducible refine choF' (by assumption) ?_ | (with_reducible refine altT ?_ ?_; first | omega | (simp only [List.length_append, List.length_cons, List.length_nil, List.length_map, List.length_take, List.length_drop, List.length_replicate, List.length_set]; omega)) | with_reducible refine altF ?_ | with_reducible refine all fun _ => ?_ | with_reducible refine both ?_ ?_ | (with_reducible refine choT ?_ ?_; omega) | (with_reducible refine choF ?_ ?_; omega) | with_reducible refine cho (fun _ => ?_) (fun _ => ?_))
  · rename_i h
    refine ⟨_, _, _, rfl, Sub.app_nil _, ?_, rfl⟩
    rw [coversB, show (lt f k || decide (f = k)) = true from h, Bool.true_and]
  · rename_i h
    refine ⟨_, _, _, rfl, Sub.app_nil _, ?_, rfl⟩
    rw [coversB, show (lt f k || decide (f = k)) = false from Bool.eq_false_iff.2 h, Bool.false_and]
instance {lev n : Int} {d f g k : List UInt8} [hd : Len32 d] : PC Go.Proofs.Try.prog 18 [tabA lev n d f g, S k] True (B (coversB f g k)) := ⟨fun _ => PC.of (Covers_ok lev n d f g k)⟩
/-- A table has something of a range of keys. -/
def overB (f g lo hi : List UInt8) : Bool := belowB lo hi && (!lt g lo && belowB f hi)
theorem Overlaps_ok (lev n : Int) (d f g lo hi : List UInt8) [hd : Len32 d] : aPure Go.Proofs.Try.prog 20 [tabA lev n d f g, S lo, S hi] (B (overB f g lo hi)) := by
  refine ACalls.fin (seek_Overlaps.go ?_)
  unfold seek_Overlaps.sh
  repeat' (first | with_reducible apply Stp.go | with_reducible refine imp fun _ => ?_ | (with_reducible refine hyp ?_ ?_; first | assumption | exact leftT_mem (by assumption)) | (with_reducible refine need ?_ ?_; first | trivial | omega | exact ⟨by assumption, by omega⟩ | (simp only [List.length_append, List.length_cons, List.length_nil, List.length_map, List.length_take, List.length_drop, List.length_replicate, List.length_set]; omega)) | (with_reducible refine fact ?_ ?_; first | trivial | exact ⟨rfl, rfl⟩ | kernel_rfl) | with_reducible refine choT (by assumption) ?_ | with_reducible refine choF (by assumption) ?_ | with_reducible refine choF' (by assumption) ?_ | (with_reducible refine altT ?_ ?_; first | omega | (simp only [List.length_append, List.length_cons, List.length_nil, List.length_map, List.length_take, List.length_drop, List.length_replicate, List.length_set]; omega)) | with_reducible refine altF ?_ | with_reducible refine all fun _ => ?_ | with_reducible refine both ?_ ?_ | (with_reducible refine choT ?_ ?_; omega) | (with_reducible refine choF ?_ ?_; omega) | with_reducible refine cho (fun _ => ?_) (fun _ => ?_))
  all_goals
    refine ⟨_, _, _, rfl, Sub.app_nil _, ?_, rfl⟩
    simp_all [overB, lt]
instance {lev n : Int} {d f g lo hi : List UInt8} [hd : Len32 d] : PC Go.Proofs.Try.prog 20 [tabA lev n d f g, S lo, S hi] True (B (overB f g lo hi)) := ⟨fun _ => PC.of (Overlaps_ok lev n d f g lo hi)⟩
theorem splace1_ok (e : En) (k : List UInt8) : aPure Go.Proofs.Try.prog 84 [e.av, S k] (I .i64 (cmpK e.key k)) := by
  refine seek_place_1.go ?_
  unfold seek_place_1.sh
  repeat' (first | with_reducible apply Stp.go | with_reducible refine imp fun _ => ?_ | (with_reducible refine hyp ?_ ?_; first | assumption | exact leftT_mem (by assumption)) | (with_reducible refine need ?_ ?_; first | trivial | omega | exact ⟨by assumption, by omega⟩ | (simp only [List.length_append, List.length_cons, List.length_nil, List.length_map, List.length_take, List.length_drop, List.length_replicate, List.length_set]; omega)) | (with_reducible refine fact ?_ ?_; first | trivial | exact ⟨rfl, rfl⟩ | kernel_rfl) | with_reducible refine choT (by assumption) ?_ | with_reducible refine choF (by assumption) ?_ | with_reducible refine choF' (by assumption) ?_ | (with_reducible refine altT ?_ ?_; first | omega | (simp only [List.length_append, List.length_cons, List.length_nil, List.length_map, List.length_take, List.length_drop, List.length_replicate, List.length_set]; omega)) | with_reducible refine altF ?_ | with_reducible refine all fun _ => ?_ | with_reducible refine both ?_ ?_ | (with_reducible refine choT ?_ ?_; omega) | (with_reducible refine choF ?_ ?_; omega) | with_reducible refine cho (fun _ => ?_) (fun _ => ?_))
  exact ⟨rfl, rfl⟩
instance {a : AV} {l : List En} {m : SM} {k : List UInt8} [h : IsL a En.av 4 l m] : PC Go.Proofs.Try.prog 83 [a, S k, .val (.func (.func 84) #[] #[])] (Rises l ∧ l.length ≤ 1000000000000) (.tuple [I .i64 (placeN l k : Nat), B (hasK l k)]) := ⟨fun hl => ⟨[.lst 4 (l.map En.av) m, S k, .val (.func (.func 84) #[] #[])], ⟨h.sub, SubVs.refl _⟩, Search_ok l m k _ (fun e => splace1_ok e k) hl.1 hl.2⟩⟩
theorem splace_ok (l : List En) (m : SM) (k : List UInt8) (hr : Rises l) (hl : l.length ≤ 1000000) : aPure Go.Proofs.Try.prog 37 [.lst 4 (l.map En.av) m, S k] (.tuple [I .i64 (placeN l k : Nat), B (hasK l k)]) := by
  refine seek_place.go ?_
  unfold seek_place.sh
  repeat' (first | with_reducible apply Stp.go | with_reducible refine imp fun _ => ?_ | (with_reducible refine hyp ?_ ?_; first | assumption | exact leftT_mem (by assumption)) | (with_reducible refine need ?_ ?_; first | trivial | omega | exact ⟨by assumption, by omega⟩ | (simp only [List.length_append, List.length_cons, List.length_nil, List.length_map, List.length_take, List.length_drop, List.length_replicate, List.length_set]; omega)) | (with_reducible refine fact ?_ ?_; first | trivial | exact ⟨rfl, rfl⟩ | kernel_rfl) | with_reducible refine choT (by assumption) ?_ | with_reducible refine choF (by assumption) ?_ | with_reducible refine choF' (by assumption) ?_ | (with_reducible refine altT ?_ ?_; first | omega | (simp only [List.length_append, List.length_cons, List.length_nil, List.length_map, List.length_take, List.length_drop, List.length_replicate, List.length_set]; omega)) | with_reducible refine altF ?_ | with_reducible refine all fun _ => ?_ | with_reducible refine both ?_ ?_ | (with_reducible refine choT ?_ ?_; omega) | (with_reducible refine choF ?_ ?_; omega) | with_reducible refine cho (fun _ => ?_) (fun _ => ?_))
  exact ⟨rfl, rfl⟩
instance {a : AV} {l : List En} {m : SM} {k : List UInt8} [h : IsL a En.av 4 l m] : PC Go.Proofs.Try.prog 37 [a, S k] (Rises l ∧ l.length ≤ 1000000) (.tuple [I .i64 (placeN l k : Nat), B (hasK l k)]) := ⟨fun hl => ⟨[.lst 4 (l.map En.av) m, S k], ⟨h.sub, SubVs.refl _⟩, splace_ok l m k hl.1 hl.2⟩⟩
/-- An opening, as a value. -/
abbrev opA (i : Int) (b : List UInt8) (p : List D32) : AV := .agg [I .i64 i, bl b, .lst 32 (p.map dgF) .ro]
theorem opens_ok (b : Int) (L : List (List UInt8)) (m : SM) (i : Nat) (hi : i < L.length) (hL : L.length ≤ 1000000) (hb : ∀ b ∈ L, b.length ≤ 100000000000000) : aPure Go.Proofs.Try.prog 38 [trA b, .lst 1 (L.map bl) m, I .i64 (i : Nat)] (opA i (L.getD i default) (pathD b L i)) := by
  refine ACalls.fin (seek_opens.go ?_)
  unfold seek_opens.sh
  have hp : i < L.length ∧ L.length ≤ 1000000 ∧ ∀ b ∈ L, b.length ≤ 100000000000000 := ⟨hi, hL, hb⟩
  repeat' (first | with_reducible apply Stp.go | with_reducible refine imp fun _ => ?_ | (with_reducible refine hyp ?_ ?_; first | assumption | exact leftT_mem (by assumption)) | (with_reducible refine need ?_ ?_; first | trivial | omega | exact ⟨by assumption, by omega⟩ | (simp only [List.length_append, List.length_cons, List.length_nil, List.length_map, List.length_take, List.length_drop, List.length_replicate, List.length_set]; omega)) | (with_reducible refine fact ?_ ?_; first | trivial | exact ⟨rfl, rfl⟩ | kernel_rfl) | with_reducible refine choT (by assumption) ?_ | with_reducible refine choF (by assumption) ?_ | with_reducible refine choF' (by assumption) ?_ | (with_reducible refine altT ?_ ?_; first | omega | (simp only [List.length_append, List.length_cons, List.length_nil, List.length_map, List.length_take, List.length_drop, List.length_replicate, List.length_set]; omega)) | with_reducible refine altF ?_ | with_reducible refine all fun _ => ?_ | with_reducible refine both ?_ ?_ | (with_reducible refine choT ?_ ?_; omega) | (with_reducible refine choF ?_ ?_; omega) | with_reducible refine cho (fun _ => ?_) (fun _ => ?_))
  exact ⟨_, _, _, rfl, Sub.app_nil _, rfl, rfl⟩
instance {a : AV} {L : List (List UInt8)} {m : SM} {b : Int} {i : Nat} [h : IsL a bl 1 L m] : PC Go.Proofs.Try.prog 38 [trA b, a, I .i64 (i : Nat)] (i < L.length ∧ L.length ≤ 1000000 ∧ ∀ b ∈ L, b.length ≤ 100000000000000) (opA i (L.getD i default) (pathD b L i)) := ⟨fun hl => ⟨[trA b, .lst 1 (L.map bl) m, I .i64 (i : Nat)], ⟨SubV.refl _, h.sub, SubV.refl _, trivial⟩, opens_ok b L m i hl.1 hl.2.1 hl.2.2⟩⟩
end Go.Ab

/- What a table has of a key, proved. -/
set_option linter.unusedVariables false
set_option linter.unusedSimpArgs false
namespace Go.Ab
theorem SubVs.len : ∀ {us us' : List AV}, SubVs us us' → us.length = us'.length
  | [], [], _ => rfl
  | _ :: us, _ :: us', h => by simp [SubVs.len h.2]
theorem SubV.agg {us us' : List AV} (h : SubVs us us') : SubV (.agg us) (.agg us') := fun R v hv => by
  obtain ⟨vs, rfl, hr⟩ := hv.agg_inv
  exact VR.agg' (h.rel hr)
/-- An opening's parts. -/
abbrev Opn := Int × List UInt8 × List D32
def opn0 : Opn := (0, [], [])
def opnAt (b : Int) (L : List (List UInt8)) (i : Nat) : Opn := ((i : Int), L.getD i default, pathD b L i)
abbrev ptA (bt : Bool) (x y : Opn) : AV := .agg [B bt, I .i64 x.1, bl x.2.1, .lst 32 (x.2.2.map dgF) .ro, I .i64 y.1, bl y.2.1, .lst 32 (y.2.2.map dgF) .ro]
/-- What is proved of a key. -/
def proveP (b : Int) (l : List En) (k : List UInt8) : Nat × Bool × Opn × Opn :=
  if fit l = true then
    if hasK l k = true then (0, false, opnAt b (l.map enB) (placeN l k), opn0)
    else if placeN l k = 0 ∨ placeN l k = l.length then (5, false, opn0, opn0)
    else (0, true, opnAt b (l.map enB) (placeN l k - 1), opnAt b (l.map enB) (placeN l k))
  else (1, false, opn0, opn0)
theorem subNil (sz : Nat) (hz : 0 < sz) : SubV (.val (.slice none 0 0)) (.lst sz [] .ro) := fun R v h => SubV.ro sz [] .nil R v (SubV.nil sz hz R v h)
theorem SubVs.mk {u v : AV} {us vs : List AV} (h : SubV u v) (hs : SubVs us vs) : SubVs (u :: us) (v :: vs) := ⟨h, hs⟩
theorem SubVs.nl : SubVs [] [] := trivial
abbrev nilV : AV := .val (.slice none 0 0)
theorem ptSub (a b c : AV) : SubV (.agg [a, b, nilV, nilV, c, nilV, nilV]) (.agg [a, b, .lst 1 [] .ro, .lst 32 [] .ro, c, .lst 1 [] .ro, .lst 32 [] .ro]) :=
  SubV.agg (.mk (SubV.refl _) (.mk (SubV.refl _) (.mk (subNil 1 (by decide)) (.mk (subNil 32 (by decide)) (.mk (SubV.refl _) (.mk (subNil 1 (by decide)) (.mk (subNil 32 (by decide)) .nl)))))))
theorem ptSub1 (a b x y c : AV) : SubV (.agg [a, b, x, y, c, nilV, nilV]) (.agg [a, b, x, y, c, .lst 1 [] .ro, .lst 32 [] .ro]) :=
  SubV.agg (.mk (SubV.refl _) (.mk (SubV.refl _) (.mk (SubV.refl _) (.mk (SubV.refl _) (.mk (SubV.refl _) (.mk (subNil 1 (by decide)) (.mk (subNil 32 (by decide)) .nl)))))))
theorem litFill {zs cs : List AV} {offs : List (Nat × Nat)} {parts : List (Nat × AV)} {K : AV → Prop} (ho : ∀ p ∈ parts, ∀ c ∈ p.2.cells, c.one = true) (hf : fillA (offs[·]?) zs parts = some cs) (hK : K (.agg cs)) : Do (aLit zs offs parts) K := ⟨_, ⟨ho, cs, hf, rfl⟩, hK⟩
def seek_Prove.mark : Mark := ⟨fun t => Nat.beq t 12 || Nat.beq t 18 || Nat.beq t 22, fun t => false, fun t => Nat.beq t 3, fun t => Nat.beq t 25 || Nat.beq t 40 || Nat.beq t 45, fun t => false⟩
def seek_Prove.ann : Ann := ⟨fun n => [], fun n => none, fun n => none⟩
/-- 'marlstone/seek.Prove' -/
def seek_Prove.sh (a0 a1 a2 : AV) (σ : Store) (Q : AEnd → Store → Prop) : Prop :=
  Do (aFreeze ((a0 : AV)).cells) fun t3 =>
  aNewVar 32 [.val (.bool false), .val (.int .i64 0), .val (.slice none 0 0), .val (.slice none 0 0), .val (.int .i64 0), .val (.slice none 0 0), .val (.slice none 0 0)] σ fun t6 σ =>
  Do (aPureC Go.Proofs.Try.prog 36 [a1]) fun t12 =>
  Do (aUn Go.Proofs.Try.prog .not t12) fun t13 =>
  aCond t13
    (Do (aLit [.val (.bool false), .val (.int .i64 0), .val (.slice none 0 0), .val (.slice none 0 0), .val (.int .i64 0), .val (.slice none 0 0), .val (.slice none 0 0)] [(0, 1), (1, 3), (4, 3)] []) fun t14 =>
    storeA 7 t6 t14 σ fun u σ_1 =>
    Do (loadA true 7 t6 σ_1) fun r6 => Q (.ret (.tuple [r6, (.val (.int .i64 1))])) σ_1)
    (Do (aPureC Go.Proofs.Try.prog 37 [a1, a2]) fun t18 =>
  Do (aExt t18 0) fun t19 =>
  Do (aExt t18 1) fun t20 =>
  Do (aPureC Go.Proofs.Try.prog 32 [a1]) fun t22 =>
  aCond t20
    (Do (loadF true 1 t3) fun t25 =>
    aCall Go.Proofs.Try.prog 38 [t25, t22, t19] σ (fun t28 σ_2 =>
    Do (aLit [.val (.bool false), .val (.int .i64 0), .val (.slice none 0 0), .val (.slice none 0 0), .val (.int .i64 0), .val (.slice none 0 0), .val (.slice none 0 0)] [(0, 1), (1, 3), (4, 3)] [(1, t28)]) fun t29 =>
    storeA 7 t6 t29 σ_2 fun u_1 σ_3 =>
    Do (loadA true 7 t6 σ_3) fun r6_1 => Q (.ret (.tuple [r6_1, (.val (.int .i64 0))])) σ_3) (fun e σ_4 => Q (.pan e) σ_4))
    (Do (aBin Go.Proofs.Try.prog .eql 3 t19 (.val (.int .i64 0))) fun t32 =>
    Do (aGuard t32 false (aIs t19)) fun t34 =>
    Do (aGuard t32 false (aIs a1)) fun t35 =>
    Do (aGuard t32 false (aBuiltin Go.Proofs.Try.prog .len #[22] [t35])) fun t36 =>
    Do (aGuard t32 false (aBin Go.Proofs.Try.prog .eql 3 t34 t36)) fun t37 =>
    Do (aPick t32 (.val (.bool true)) t37) fun t38 =>
    aCond t38
      (Do (aLit [.val (.bool false), .val (.int .i64 0), .val (.slice none 0 0), .val (.slice none 0 0), .val (.int .i64 0), .val (.slice none 0 0), .val (.slice none 0 0)] [(0, 1), (1, 3), (4, 3)] []) fun t39 =>
      storeA 7 t6 t39 σ fun u_2 σ_5 =>
      Do (loadA true 7 t6 σ_5) fun r6_2 => Q (.ret (.tuple [r6_2, (.val (.int .i64 5))])) σ_5)
      (Do (loadF true 1 t3) fun t40 =>
  Do (aBin Go.Proofs.Try.prog .sub 3 t19 (.val (.int .i64 1))) fun t43 =>
  Do (loadF true 1 t3) fun t45 =>
  aCall Go.Proofs.Try.prog 38 [t40, t22, t43] σ (fun t44 σ_6 =>
  aCall Go.Proofs.Try.prog 38 [t45, t22, t19] σ_6 (fun t48 σ_7 =>
  Do (aLit [.val (.bool false), .val (.int .i64 0), .val (.slice none 0 0), .val (.slice none 0 0), .val (.int .i64 0), .val (.slice none 0 0), .val (.slice none 0 0)] [(0, 1), (1, 3), (4, 3)] [(0, (.val (.bool true))), (1, t44), (2, t48)]) fun t49 =>
  storeA 7 t6 t49 σ_7 fun u_3 σ_8 =>
  Do (loadA true 7 t6 σ_8) fun r6_3 => Q (.ret (.tuple [r6_3, (.val (.int .i64 0))])) σ_8) (fun e_1 σ_9 => Q (.pan e_1) σ_9)) (fun e_2 σ_10 => Q (.pan e_2) σ_10))))
theorem seek_Prove.eq (a0 a1 a2 : AV) (σ : Store) (Q : AEnd → Store → Prop) : vc (semOf Go.Proofs.Try.prog seek_Prove.mark) Go.Proofs.Try.f12.ntmps seek_Prove.ann (bodyOf Go.Proofs.Try.f12) (endK [.cell 6 true 7, .tmp 7] Q) (argFr [a0, a1, a2]) σ = seek_Prove.sh a0 a1 a2 σ Q := by kernel_rfl
theorem seek_Prove.go {a0 a1 a2 : AV} {σ : Store} {Q : AEnd → Store → Prop} (h : seek_Prove.sh a0 a1 a2 σ Q) : ACalls Go.Proofs.Try.prog 12 [a0, a1, a2] σ Q :=
  acalls_of_eq [.cell 6 true 7, .tmp 7] Go.Proofs.Try.func12 (by kernel_rfl) (by kernel_rfl) (by kernel_rfl) (by kernel_rfl) (seek_Prove.eq a0 a1 a2 σ Q) h
theorem Prove_ok (b : Int) (l : List En) (m : SM) (k : List UInt8) (hl : l.length ≤ 1000000) : aPure Go.Proofs.Try.prog 12 [trA b, .lst 4 (l.map En.av) m, S k] (.tuple [ptA (proveP b l k).2.1 (proveP b l k).2.2.1 (proveP b l k).2.2.2, I .i64 ((proveP b l k).1 : Nat)]) := by
  refine ACalls.fin (seek_Prove.go ?_)
  unfold seek_Prove.sh
  have hb : ∀ b ∈ l.map enB, b.length ≤ 100000000000000 := fun b h => by
    obtain ⟨e, _, rfl⟩ := List.mem_map.1 h
    have := enB_length e
    omega
  have hml : (l.map enB).length = l.length := by simp
  have hL : (l.map enB).length ≤ 1000000 := by omega
  by_cases hf : fit l = true
  · have hr : Rises l := (sorted_iff l).1 (fit_right hf).2.2.1
    have hp := placeN_le l k
    by_cases hk : hasK l k = true
    · have h1 := (place_lt hr hk).1
      have e : proveP b l k = (0, false, opnAt b (l.map enB) (placeN l k), opn0) := by rw [proveP, if_pos hf, if_pos hk]
      have q1 : placeN l k < (l.map enB).length ∧ (l.map enB).length ≤ 1000000 ∧ ∀ b ∈ l.map enB, b.length ≤ 100000000000000 := ⟨by omega, hL, hb⟩
      rw [e]
      repeat' (first | with_reducible apply Stp.go | with_reducible refine imp fun _ => ?_ | (with_reducible refine hyp ?_ ?_; first | assumption | exact leftT_mem (by assumption)) | (with_reducible refine need ?_ ?_; first | trivial | omega | exact ⟨by assumption, by omega⟩ | (simp only [List.length_append, List.length_cons, List.length_nil, List.length_map, List.length_take, List.length_drop, List.length_replicate, List.length_set]; omega)) | (with_reducible refine fact ?_ ?_; first | trivial | exact ⟨rfl, rfl⟩ | kernel_rfl) | with_reducible refine choT (by assumption) ?_ | with_reducible refine choF (by assumption) ?_ | with_reducible refine choF' (by assumption) ?_ | (with_reducible refine altT ?_ ?_; first | omega | (simp only [List.length_append, List.length_cons, List.length_nil, List.length_map, List.length_take, List.length_drop, List.length_replicate, List.length_set]; omega)) | with_reducible refine altF ?_ | with_reducible refine all fun _ => ?_ | with_reducible refine both ?_ ?_ | (with_reducible refine choT ?_ ?_; omega) | (with_reducible refine choF ?_ ?_; omega) | with_reducible refine cho (fun _ => ?_) (fun _ => ?_))
      refine litFill (cs := [.val (.bool false), I .i64 (placeN l k : Nat), bl ((l.map enB).getD (placeN l k) default), .lst 32 ((pathD b (l.map enB) (placeN l k)).map dgF) .ro, .val (.int .i64 0), .val (.slice none 0 0), .val (.slice none 0 0)]) ?_ rfl ?_
      · intro p hp c hc
        rw [List.mem_singleton.1 hp] at hc
        simp only [AV.cells, List.mem_cons, List.not_mem_nil, or_false] at hc
        rcases hc with rfl | rfl | rfl <;> rfl
      repeat' (first | with_reducible apply Stp.go | with_reducible refine imp fun _ => ?_ | (with_reducible refine hyp ?_ ?_; first | assumption | exact leftT_mem (by assumption)) | (with_reducible refine need ?_ ?_; first | trivial | omega | exact ⟨by assumption, by omega⟩ | (simp only [List.length_append, List.length_cons, List.length_nil, List.length_map, List.length_take, List.length_drop, List.length_replicate, List.length_set]; omega)) | (with_reducible refine fact ?_ ?_; first | trivial | exact ⟨rfl, rfl⟩ | kernel_rfl) | with_reducible refine choT (by assumption) ?_ | with_reducible refine choF (by assumption) ?_ | with_reducible refine choF' (by assumption) ?_ | (with_reducible refine altT ?_ ?_; first | omega | (simp only [List.length_append, List.length_cons, List.length_nil, List.length_map, List.length_take, List.length_drop, List.length_replicate, List.length_set]; omega)) | with_reducible refine altF ?_ | with_reducible refine all fun _ => ?_ | with_reducible refine both ?_ ?_ | (with_reducible refine choT ?_ ?_; omega) | (with_reducible refine choF ?_ ?_; omega) | with_reducible refine cho (fun _ => ?_) (fun _ => ?_))
      exact ⟨_, _, _, rfl, Sub.trans (Sub.app_nil _) (Sub.tuple (Sub.vals (.mk (ptSub1 _ _ _ _ _) (.mk (SubV.refl _) .nl)))), rfl, rfl⟩
    · by_cases hz : placeN l k = 0 ∨ placeN l k = l.length
      · have e : proveP b l k = (5, false, opn0, opn0) := by rw [proveP, if_pos hf, if_neg hk, if_pos hz]
        rw [e]
        by_cases h0 : placeN l k = 0
        · repeat' (first | with_reducible apply Stp.go | with_reducible refine imp fun _ => ?_ | (with_reducible refine hyp ?_ ?_; first | assumption | exact leftT_mem (by assumption)) | (with_reducible refine need ?_ ?_; first | trivial | omega | exact ⟨by assumption, by omega⟩ | (simp only [List.length_append, List.length_cons, List.length_nil, List.length_map, List.length_take, List.length_drop, List.length_replicate, List.length_set]; omega)) | (with_reducible refine fact ?_ ?_; first | trivial | exact ⟨rfl, rfl⟩ | kernel_rfl) | with_reducible refine choT (by assumption) ?_ | with_reducible refine choF (by assumption) ?_ | with_reducible refine choF' (by assumption) ?_ | (with_reducible refine altT ?_ ?_; first | omega | (simp only [List.length_append, List.length_cons, List.length_nil, List.length_map, List.length_take, List.length_drop, List.length_replicate, List.length_set]; omega)) | with_reducible refine altF ?_ | with_reducible refine all fun _ => ?_ | with_reducible refine both ?_ ?_ | (with_reducible refine choT ?_ ?_; omega) | (with_reducible refine choF ?_ ?_; omega) | with_reducible refine cho (fun _ => ?_) (fun _ => ?_))
          exact ⟨_, _, _, rfl, Sub.trans (Sub.app_nil _) (Sub.tuple (Sub.vals (.mk (ptSub _ _ _) (.mk (SubV.refl _) .nl)))), rfl, rfl⟩
        · have h1 : placeN l k = l.length := by omega
          repeat' (first | with_reducible apply Stp.go | with_reducible refine imp fun _ => ?_ | (with_reducible refine hyp ?_ ?_; first | assumption | exact leftT_mem (by assumption)) | (with_reducible refine need ?_ ?_; first | trivial | omega | exact ⟨by assumption, by omega⟩ | (simp only [List.length_append, List.length_cons, List.length_nil, List.length_map, List.length_take, List.length_drop, List.length_replicate, List.length_set]; omega)) | (with_reducible refine fact ?_ ?_; first | trivial | exact ⟨rfl, rfl⟩ | kernel_rfl) | with_reducible refine choT (by assumption) ?_ | with_reducible refine choF (by assumption) ?_ | with_reducible refine choF' (by assumption) ?_ | (with_reducible refine altT ?_ ?_; first | omega | (simp only [List.length_append, List.length_cons, List.length_nil, List.length_map, List.length_take, List.length_drop, List.length_replicate, List.length_set]; omega)) | with_reducible refine altF ?_ | with_reducible refine all fun _ => ?_ | with_reducible refine both ?_ ?_ | (with_reducible refine choT ?_ ?_; omega) | (with_reducible refine choF ?_ ?_; omega) | with_reducible refine cho (fun _ => ?_) (fun _ => ?_))
          exact ⟨_, _, _, rfl, Sub.trans (Sub.app_nil _) (Sub.tuple (Sub.vals (.mk (ptSub _ _ _) (.mk (SubV.refl _) .nl)))), rfl, rfl⟩
      · have e : proveP b l k = (0, true, opnAt b (l.map enB) (placeN l k - 1), opnAt b (l.map enB) (placeN l k)) := by rw [proveP, if_pos hf, if_neg hk, if_neg hz]
        have h0 : ¬ placeN l k = 0 := fun h => hz (.inl h)
        have h1 : ¬ placeN l k = l.length := fun h => hz (.inr h)
        have q1 : placeN l k < (l.map enB).length ∧ (l.map enB).length ≤ 1000000 ∧ ∀ b ∈ l.map enB, b.length ≤ 100000000000000 := ⟨by omega, hL, hb⟩
        have q2 : placeN l k - 1 < (l.map enB).length ∧ (l.map enB).length ≤ 1000000 ∧ ∀ b ∈ l.map enB, b.length ≤ 100000000000000 := ⟨by omega, hL, hb⟩
        rw [e]
        repeat' (first | with_reducible apply Stp.go | with_reducible refine imp fun _ => ?_ | (with_reducible refine hyp ?_ ?_; first | assumption | exact leftT_mem (by assumption)) | (with_reducible refine need ?_ ?_; first | trivial | omega | exact ⟨by assumption, by omega⟩ | (simp only [List.length_append, List.length_cons, List.length_nil, List.length_map, List.length_take, List.length_drop, List.length_replicate, List.length_set]; omega)) | (with_reducible refine fact ?_ ?_; first | trivial | exact ⟨rfl, rfl⟩ | kernel_rfl) | with_reducible refine choT (by assumption) ?_ | with_reducible refine choF (by assumption) ?_ | with_reducible refine choF' (by assumption) ?_ | (with_reducible refine altT ?_ ?_; first | omega | (simp only [List.length_append, List.length_cons, List.length_nil, List.length_map, List.length_take, List.length_drop, List.length_replicate, List.length_set]; omega)) | with_reducible refine altF ?_ | with_reducible refine all fun _ => ?_ | with_reducible refine both ?_ ?_ | (with_reducible refine choT ?_ ?_; omega) | (with_reducible refine choF ?_ ?_; omega) | with_reducible refine cho (fun _ => ?_) (fun _ => ?_))
        refine litFill (cs := [.val (.bool true), I .i64 (placeN l k - 1 : Nat), bl ((l.map enB).getD (placeN l k - 1) default), .lst 32 ((pathD b (l.map enB) (placeN l k - 1)).map dgF) .ro, I .i64 (placeN l k : Nat), bl ((l.map enB).getD (placeN l k) default), .lst 32 ((pathD b (l.map enB) (placeN l k)).map dgF) .ro]) ?_ rfl ?_
        · intro p hp c hc
          simp only [List.mem_cons, List.not_mem_nil, or_false] at hp
          rcases hp with rfl | rfl | rfl
          · rw [List.mem_singleton.1 hc]; rfl
          · simp only [AV.cells, List.mem_cons, List.not_mem_nil, or_false] at hc
            rcases hc with rfl | rfl | rfl <;> rfl
          · simp only [AV.cells, List.mem_cons, List.not_mem_nil, or_false] at hc
            rcases hc with rfl | rfl | rfl <;> rfl
        repeat' (first | with_reducible apply Stp.go | with_reducible refine imp fun _ => ?_ | (with_reducible refine hyp ?_ ?_; first | assumption | exact leftT_mem (by assumption)) | (with_reducible refine need ?_ ?_; first | trivial | omega | exact ⟨by assumption, by omega⟩ | (simp only [List.length_append, List.length_cons, List.length_nil, List.length_map, List.length_take, List.length_drop, List.length_replicate, List.length_set]; omega)) | (with_reducible refine fact ?_ ?_; first | trivial | exact ⟨rfl, rfl⟩ | kernel_rfl) | with_reducible refine choT (by assumption) ?_ | with_reducible refine choF (by assumption) ?_ | with_reducible refine choF' (by assumption) ?_ | (with_reducible refine altT ?_ ?_; first | omega | (simp only [List.length_append, List.length_cons, List.length_nil, List.length_map, List.length_take, List.length_drop, List.length_replicate, List.length_set]; omega)) | with_reducible refine altF ?_ | with_reducible refine all fun _ => ?_ | with_reducible refine both ?_ ?_ | (with_reducible refine choT ?_ ?_; omega) | (with_reducible refine choF ?_ ?_; omega) | with_reducible refine cho (fun _ => ?_) (fun _ => ?_))
        exact ⟨_, _, _, rfl, Sub.app_nil _, rfl, rfl⟩
  · have e : proveP b l k = (1, false, opn0, opn0) := by rw [proveP, if_neg hf]
    rw [e]
    repeat' (first | with_reducible apply Stp.go | with_reducible refine imp fun _ => ?_ | (with_reducible refine hyp ?_ ?_; first | assumption | exact leftT_mem (by assumption)) | (with_reducible refine need ?_ ?_; first | trivial | omega | exact ⟨by assumption, by omega⟩ | (simp only [List.length_append, List.length_cons, List.length_nil, List.length_map, List.length_take, List.length_drop, List.length_replicate, List.length_set]; omega)) | (with_reducible refine fact ?_ ?_; first | trivial | exact ⟨rfl, rfl⟩ | kernel_rfl) | with_reducible refine choT (by assumption) ?_ | with_reducible refine choF (by assumption) ?_ | with_reducible refine choF' (by assumption) ?_ | (with_reducible refine altT ?_ ?_; first | omega | (simp only [List.length_append, List.length_cons, List.length_nil, List.length_map, List.length_take, List.length_drop, List.length_replicate, List.length_set]; omega)) | with_reducible refine altF ?_ | with_reducible refine all fun _ => ?_ | with_reducible refine both ?_ ?_ | (with_reducible refine choT ?_ ?_; omega) | (with_reducible refine choF ?_ ?_; omega) | with_reducible refine cho (fun _ => ?_) (fun _ => ?_))
    exact ⟨_, _, _, rfl, Sub.trans (Sub.app_nil _) (Sub.tuple (Sub.vals (.mk (ptSub _ _ _) (.mk (SubV.refl _) .nl)))), rfl, rfl⟩
instance {a : AV} {l : List En} {m : SM} {b : Int} {k : List UInt8} [h : IsL a En.av 4 l m] : PC Go.Proofs.Try.prog 12 [trA b, a, S k] (l.length ≤ 1000000) (.tuple [ptA (proveP b l k).2.1 (proveP b l k).2.2.1 (proveP b l k).2.2.2, I .i64 ((proveP b l k).1 : Nat)]) := ⟨fun hl => ⟨[trA b, .lst 4 (l.map En.av) m, S k], ⟨SubV.refl _, h.sub, SubV.refl _, trivial⟩, Prove_ok b l m k hl⟩⟩
end Go.Ab

/- Arrays of bytes held against one another. -/
set_option linter.unusedVariables false
set_option linter.unusedSimpArgs false
namespace Go.Ab
abbrev bytv (b : UInt8) : Value := .int .u8 b.toNat
theorem run_items {P : Program} {e : TypeId} (he : P.underlying e = some (.int .u8)) (c c' : List UInt8) (d : Nat) (w : World) : ∀ is : List Nat, (∀ i ∈ is, i < c.length ∧ i < c'.length) →
    (Op.eqItems (d + 1) e 1 (c.map bytv).toArray (c'.map bytv).toArray is).run P w = .ok (is.all fun i => decide (c.getD i 0 = c'.getD i 0)) w
  | [], _ => by simp [Op.eqItems]
  | i :: is, h => by
    obtain ⟨h1, h2⟩ := h i List.mem_cons_self
    have ih := run_items he c c' d w is fun j hj => h j (List.mem_cons_of_mem _ hj)
    have p1 : (part e (c.map bytv).toArray (i * 1)).run P w = .ok (bytv (c.getD i 0)) w := part_plain he rfl (by simp [List.getD_eq_getElem?_getD, h1]) w
    have p2 : (part e (c'.map bytv).toArray (i * 1)).run P w = .ok (bytv (c'.getD i 0)) w := part_plain he rfl (by simp [List.getD_eq_getElem?_getD, h2]) w
    have p3 : (Op.equalIn (d + 1) e (bytv (c.getD i 0)) (bytv (c'.getD i 0))).run P w = .ok (decide (c.getD i 0 = c'.getD i 0)) w := by
      rw [run_equalIn_int w d e .u8 .u8 _ _ he]
      congr 1
      rw [Bool.eq_iff_iff, beq_iff_eq, decide_eq_true_eq]
      constructor
      · intro h; exact UInt8.toNat_inj.1 (Int.ofNat.inj h)
      · intro h; rw [h]
    simp only [Op.eqItems, Sem.run_bind, p1, p2, p3, Result.andThen_ok, List.all_cons]
    by_cases hh : c.getD i 0 = c'.getD i 0
    · rw [decide_eq_true hh]; simpa using ih
    · rw [decide_eq_false hh]; simp
theorem all_same {c c' : List UInt8} {n : Nat} (h : c.length = n) (h' : c'.length = n) : ((List.range n).all fun i => decide (c.getD i 0 = c'.getD i 0)) = decide (c = c') := by
  rw [Bool.eq_iff_iff, List.all_eq_true, decide_eq_true_eq]
  constructor
  · intro hh
    apply List.ext_getElem (by omega)
    intro i h1 h2
    have := hh i (List.mem_range.2 (by omega))
    simpa [List.getD_eq_getElem?_getD, h1, h2] using this
  · rintro rfl i _; simp
class ArrB (P : Program) (t : TypeId) (n : outParam Nat) : Prop where
  h : ∃ e, P.underlying t = some (.array n e) ∧ P.underlying e = some (.int .u8) ∧ (P.info? e).isSome = true ∧ P.cellsOf e = 1 ∧ P.eqGuardType P.depth t = false
theorem allVals_byt (c : List UInt8) : allVals (c.map byt) = some (c.map bytv) := by
  induction c with
  | nil => rfl
  | cons a c ih => simp [allVals, ih, byt]
theorem arr_plain (c : List UInt8) : plainV (.agg (c.map byt)) = some (.agg (c.map bytv).toArray) := by
  simp [plainV, allVals_byt]
section arr
variable {P : Program} {t : TypeId} {n : Nat} {c c' : List UInt8} {K : AV → Prop}
theorem run_arr [h : ArrB P t n] (h1 : c.length = n) (h2 : c'.length = n) (w : World) : (Op.equalIn 10000 t (.agg (c.map bytv).toArray) (.agg (c'.map bytv).toArray)).run P w = .ok (decide (c = c')) w := by
  obtain ⟨e, g1, g2, g3, g4, g5⟩ := h.h
  obtain ⟨i, g3⟩ := Option.isSome_iff_exists.1 g3
  show (Op.equalIn (9998 + 1 + 1) t _ _).run P w = _
  rw [run_equalIn_array w (9998 + 1) _ _ g1 g3, g4, run_items g2 c c' 9998 w _ (fun i hi => by have := List.mem_range.1 hi; omega), all_same h1 h2]
instance eqArr [h : ArrB P t n] : Stp (Do (aBin P .eql t (.agg (c.map byt)) (.agg (c'.map byt))) K) (Need (c.length = n ∧ c'.length = n) (K (.val (.bool (decide (c = c')))))) := ⟨fun ⟨⟨h1, h2⟩, hK⟩ => by
  refine ⟨_, (aBin_plain (arr_plain c) (arr_plain c') fun xo yo w => ?_).2 rfl, hK⟩
  obtain ⟨e, g1, g2, g3, g4, g5⟩ := h.h
  simp only [Sem.run_bind, run_eqGuard_agg w .eql t xo yo _ _ g5, Result.andThen_ok, run_eql_struct, run_arr (t := t) h1 h2 w, Result.andThen_ok]⟩
end arr
instance : ArrB Go.Proofs.Try.prog 46 32 := ⟨⟨5, by kernel_rfl, by kernel_rfl, by kernel_rfl, by kernel_rfl, by kernel_rfl⟩⟩
end Go.Ab

/- A leaf held against a root. -/
set_option linter.unusedVariables false
set_option linter.unusedSimpArgs false
namespace Go.Ab
instance (priority := 75) ldFD {l : List UInt8} {K : AV → Prop} [hl : Len32 l] : Stp (Do (loadF true 32 (.rptr (l.map byt))) K) (K (dgA l)) := ⟨fun hK => ⟨_, ⟨by decide, fun h => by (cases h), by simp [hl.len], by
  rw [List.take_of_length_le (by simp [hl.len])]; rfl⟩, hK⟩⟩
def tree_Tree_swapped.mark : Mark := ⟨fun t => false, fun t => false, fun t => Nat.beq t 3 || Nat.beq t 4 || Nat.beq t 5, fun t => Nat.beq t 7 || Nat.beq t 8 || Nat.beq t 9, fun t => false⟩
def tree_Tree_swapped.ann : Ann := ⟨fun n => [], fun n => none, fun n => none⟩
/-- '(marlstone/tree.Tree).swapped' -/
def tree_Tree_swapped.sh (a0 a1 a2 : AV) (σ : Store) (Q : AEnd → Store → Prop) : Prop :=
  Do (aFreeze ((a0 : AV)).cells) fun t3 =>
  Do (aFreeze ((a1 : AV)).cells) fun t4 =>
  Do (aFreeze ((a2 : AV)).cells) fun t5 =>
  aNewVar 46 [.val (.int .u8 0), .val (.int .u8 0), .val (.int .u8 0), .val (.int .u8 0), .val (.int .u8 0), .val (.int .u8 0), .val (.int .u8 0), .val (.int .u8 0), .val (.int .u8 0), .val (.int .u8 0), .val (.int .u8 0), .val (.int .u8 0), .val (.int .u8 0), .val (.int .u8 0), .val (.int .u8 0), .val (.int .u8 0), .val (.int .u8 0), .val (.int .u8 0), .val (.int .u8 0), .val (.int .u8 0), .val (.int .u8 0), .val (.int .u8 0), .val (.int .u8 0), .val (.int .u8 0), .val (.int .u8 0), .val (.int .u8 0), .val (.int .u8 0), .val (.int .u8 0), .val (.int .u8 0), .val (.int .u8 0), .val (.int .u8 0), .val (.int .u8 0)] σ fun t6 σ =>
  Do (loadF true 1 t3) fun t7 =>
  Do (loadF true 32 t5) fun t8 =>
  Do (loadF true 32 t4) fun t9 =>
  aCall Go.Proofs.Try.prog 71 [t7, t8, t9] σ (fun t10 σ_1 =>
  storeA 32 t6 t10 σ_1 fun u σ_2 =>
  Do (loadA true 32 t6 σ_2) fun r6 => Q (.ret r6) σ_2) (fun e σ_3 => Q (.pan e) σ_3)
theorem tree_Tree_swapped.eq (a0 a1 a2 : AV) (σ : Store) (Q : AEnd → Store → Prop) : vc (semOf Go.Proofs.Try.prog tree_Tree_swapped.mark) Go.Proofs.Try.f103.ntmps tree_Tree_swapped.ann (bodyOf Go.Proofs.Try.f103) (endK [.cell 6 true 32] Q) (argFr [a0, a1, a2]) σ = tree_Tree_swapped.sh a0 a1 a2 σ Q := by kernel_rfl
theorem tree_Tree_swapped.go {a0 a1 a2 : AV} {σ : Store} {Q : AEnd → Store → Prop} (h : tree_Tree_swapped.sh a0 a1 a2 σ Q) : ACalls Go.Proofs.Try.prog 103 [a0, a1, a2] σ Q :=
  acalls_of_eq [.cell 6 true 32] Go.Proofs.Try.func103 (by kernel_rfl) (by kernel_rfl) (by kernel_rfl) (by kernel_rfl) (tree_Tree_swapped.eq a0 a1 a2 σ Q) h
def tree_Tree_Check.mark : Mark := ⟨fun t => false, fun t => false, fun t => Nat.beq t 6 || Nat.beq t 7, fun t => Nat.beq t 50 || Nat.beq t 59 || Nat.beq t 68 || Nat.beq t 74, fun t => false⟩
def tree_Tree_Check.ann : Ann := ⟨fun n => bif Nat.beq n 4 then [2, 3, 4, 5, 6, 7, 13] else bif Nat.beq n 13 then [6, 7, 13, 15, 53, 54, 55] else [], fun n => none, fun n => none⟩
/-- '(marlstone/tree.Tree).Check' -/
def tree_Tree_Check.sh (a0 a1 a2 a3 a4 a5 : AV) (σ : Store) (Q : AEnd → Store → Prop) : Prop :=
  Do (aFreeze ((a0 : AV)).cells) fun t6 =>
  Do (aFreeze ((a1 : AV)).cells) fun t7 =>
  Do (aBin Go.Proofs.Try.prog .lss 3 a3 (.val (.int .i64 0))) fun t19 =>
  Do (aGuard t19 false (aIs a3)) fun t21 =>
  Do (aGuard t19 false (aIs a2)) fun t22 =>
  Do (aGuard t19 false (aBin Go.Proofs.Try.prog .geq 3 t21 t22)) fun t23 =>
  Do (aPick t19 (.val (.bool true)) t23) fun t24 =>
  aCond t24
    (Q (.ret (.val (.bool false))) σ)
    (aLoop (fun go vs σ =>
    At vs 0 fun s2 => At vs 1 fun s3 => At vs 2 fun s4 => At vs 3 fun s5 => At vs 4 fun s6 => At vs 5 fun s7 => At vs 6 fun s13 => Do (aBin Go.Proofs.Try.prog .gtr 3 s2 (.val (.int .i64 1))) fun t26 =>
    aCond t26
      (aCall Go.Proofs.Try.prog 100 [s2] σ (fun t28 σ_1 =>
    Do (aBin Go.Proofs.Try.prog .lss 3 s3 t28) fun t31 =>
    aCond t31
      (Do (aSlLit (mkE [.val .nilFunc]) 1 1 [(0, (.val (.func (.func 71) #[] #[])))]) fun t33 =>
      aAppend 145 1 8 s13 t33 σ_1 (subK fun t34 σ_2 =>
      go [t28, s3, s4, s5, s6, s7, t34] σ_2))
      (Do (aSlLit (mkE [.val .nilFunc]) 1 1 [(0, (.val (.func (.func 103) #[] #[])))]) fun t37 =>
      aAppend 145 1 8 s13 t37 σ_1 (subK fun t38 σ_3 =>
      Do (aBin Go.Proofs.Try.prog .sub 3 s2 t28) fun t41 =>
      Do (aBin Go.Proofs.Try.prog .sub 3 s3 t28) fun t44 =>
      go [t41, t44, s4, s5, s6, s7, t38] σ_3))) (fun e σ_4 => Q (.pan e) σ_4))
      (Do (aBuiltin Go.Proofs.Try.prog .len #[28] [s5]) fun t46 =>
  Do (aBuiltin Go.Proofs.Try.prog .len #[144] [s13]) fun t48 =>
  Do (aBin Go.Proofs.Try.prog .neq 3 t46 t48) fun t49 =>
  aCond t49
    (Q (.ret (.val (.bool false))) σ)
    (Do (loadF true 1 s6) fun t50 =>
  aCall Go.Proofs.Try.prog 66 [t50, s4] σ (fun t52 σ_5 =>
  aNewVar 46 [.val (.int .u8 0), .val (.int .u8 0), .val (.int .u8 0), .val (.int .u8 0), .val (.int .u8 0), .val (.int .u8 0), .val (.int .u8 0), .val (.int .u8 0), .val (.int .u8 0), .val (.int .u8 0), .val (.int .u8 0), .val (.int .u8 0), .val (.int .u8 0), .val (.int .u8 0), .val (.int .u8 0), .val (.int .u8 0), .val (.int .u8 0), .val (.int .u8 0), .val (.int .u8 0), .val (.int .u8 0), .val (.int .u8 0), .val (.int .u8 0), .val (.int .u8 0), .val (.int .u8 0), .val (.int .u8 0), .val (.int .u8 0), .val (.int .u8 0), .val (.int .u8 0), .val (.int .u8 0), .val (.int .u8 0), .val (.int .u8 0), .val (.int .u8 0)] σ_5 fun t15 σ_6 =>
  storeA 32 t15 t52 σ_6 fun u σ_7 =>
  Do (aBuiltin Go.Proofs.Try.prog .len #[28] [s5]) fun t54 =>
  aLoop (fun go_1 vs_1 σ_8 =>
    At vs_1 0 fun s6_1 => At vs_1 1 fun s7_1 => At vs_1 2 fun s13_1 => At vs_1 3 fun s15 => At vs_1 4 fun s53 => At vs_1 5 fun s54 => At vs_1 6 fun s55 => Do (aBin Go.Proofs.Try.prog .lss 3 s55 s54) fun t56 =>
    aCond t56
      (Do (aIndexAddr .slice 32 s53 s55) fun t58 =>
    Do (loadF true 32 t58) fun t59 =>
    aNewVar 46 [.val (.int .u8 0), .val (.int .u8 0), .val (.int .u8 0), .val (.int .u8 0), .val (.int .u8 0), .val (.int .u8 0), .val (.int .u8 0), .val (.int .u8 0), .val (.int .u8 0), .val (.int .u8 0), .val (.int .u8 0), .val (.int .u8 0), .val (.int .u8 0), .val (.int .u8 0), .val (.int .u8 0), .val (.int .u8 0), .val (.int .u8 0), .val (.int .u8 0), .val (.int .u8 0), .val (.int .u8 0), .val (.int .u8 0), .val (.int .u8 0), .val (.int .u8 0), .val (.int .u8 0), .val (.int .u8 0), .val (.int .u8 0), .val (.int .u8 0), .val (.int .u8 0), .val (.int .u8 0), .val (.int .u8 0), .val (.int .u8 0), .val (.int .u8 0)] σ_8 fun t17 σ_9 =>
    storeA 32 t17 t59 σ_9 fun u_1 σ_10 =>
    Do (aBuiltin Go.Proofs.Try.prog .len #[144] [s13_1]) fun t62 =>
    Do (aBin Go.Proofs.Try.prog .sub 3 t62 (.val (.int .i64 1))) fun t63 =>
    Do (aBin Go.Proofs.Try.prog .sub 3 t63 s55) fun t65 =>
    Do (aIndexAddr .slice 1 s13_1 t65) fun t66 =>
    Do (loadA false 1 t66 σ_10) fun t67 =>
    Do (loadF true 1 s6_1) fun t68 =>
    Do (loadA true 32 s15 σ_10) fun t69 =>
    Do (loadA true 32 t17 σ_10) fun t70 =>
    aCallV Go.Proofs.Try.prog t67 [t68, t69, t70] σ_10 (fun t71 σ_11 =>
    storeA 32 s15 t71 σ_11 fun u_2 σ_12 =>
    Do (aBin Go.Proofs.Try.prog .add 3 s55 (.val (.int .i64 1))) fun t72 =>
    go_1 [s6_1, s7_1, s13_1, s15, s53, s54, t72] σ_12) (fun e_1 σ_13 => Q (.pan e_1) σ_13))
      (Do (loadA true 32 s15 σ_8) fun t73 =>
  Do (loadF true 32 s7_1) fun t74 =>
  Do (aBin Go.Proofs.Try.prog .eql 46 t73 t74) fun t75 =>
  Q (.ret t75) σ_8))
    [s6, s7, s13, t15, s5, t54, (.val (.int .i64 0))] σ_7) (fun e_2 σ_14 => Q (.pan e_2) σ_14))))
    [a2, a3, a4, a5, t6, t7, (.val (.slice none 0 0))] σ)
theorem tree_Tree_Check.eq (a0 a1 a2 a3 a4 a5 : AV) (σ : Store) (Q : AEnd → Store → Prop) : vc (semOf Go.Proofs.Try.prog tree_Tree_Check.mark) Go.Proofs.Try.f64.ntmps tree_Tree_Check.ann (bodyOf Go.Proofs.Try.f64) (endK [.tmp 12] Q) (argFr [a0, a1, a2, a3, a4, a5]) σ = tree_Tree_Check.sh a0 a1 a2 a3 a4 a5 σ Q := by kernel_rfl
theorem tree_Tree_Check.go {a0 a1 a2 a3 a4 a5 : AV} {σ : Store} {Q : AEnd → Store → Prop} (h : tree_Tree_Check.sh a0 a1 a2 a3 a4 a5 σ Q) : ACalls Go.Proofs.Try.prog 64 [a0, a1, a2, a3, a4, a5] σ Q :=
  acalls_of_eq [.tmp 12] Go.Proofs.Try.func64 (by kernel_rfl) (by kernel_rfl) (by kernel_rfl) (by kernel_rfl) (tree_Tree_Check.eq a0 a1 a2 a3 a4 a5 σ Q) h
theorem swapped_ok (bits : Int) (r l : List UInt8) [hl : Len32 l] [hr : Len32 r] : aPure Go.Proofs.Try.prog 103 [trA bits, dgA r, dgA l] (dgA (nodeD bits l r)) := by
  refine ACalls.fin (tree_Tree_swapped.go ?_)
  unfold tree_Tree_swapped.sh
  have h1 := hl.len
  have h2 := hr.len
  have h32 : (nodeD bits l r).length = 32 := Len32.len
  repeat' (first | with_reducible apply Stp.go | with_reducible refine imp fun _ => ?_ | (with_reducible refine hyp ?_ ?_; first | assumption | exact leftT_mem (by assumption)) | (with_reducible refine need ?_ ?_; first | trivial | omega | exact ⟨by assumption, by omega⟩ | (simp only [List.length_append, List.length_cons, List.length_nil, List.length_map, List.length_take, List.length_drop, List.length_replicate, List.length_set]; omega)) | (with_reducible refine fact ?_ ?_; first | trivial | exact ⟨rfl, rfl⟩ | kernel_rfl) | with_reducible refine choT (by assumption) ?_ | with_reducible refine choF (by assumption) ?_ | with_reducible refine choF' (by assumption) ?_ | (with_reducible refine altT ?_ ?_; first | omega | (simp only [List.length_append, List.length_cons, List.length_nil, List.length_map, List.length_take, List.length_drop, List.length_replicate, List.length_set]; omega)) | with_reducible refine altF ?_ | with_reducible refine all fun _ => ?_ | with_reducible refine both ?_ ?_ | (with_reducible refine choT ?_ ?_; omega) | (with_reducible refine choF ?_ ?_; omega) | with_reducible refine cho (fun _ => ?_) (fun _ => ?_))
  exact ⟨_, _, _, rfl, Sub.app_nil _, rfl, rfl⟩
instance {l r : List UInt8} {b : Int} [hl : Len32 l] [hr : Len32 r] : PC Go.Proofs.Try.prog 103 [trA b, dgA r, dgA l] True (dgA (nodeD b l r)) := ⟨fun _ => PC.of (swapped_ok b r l)⟩
/-- The way down to a leaf: to the left, or not. -/
def upL (cnt i : Nat) : List Bool :=
  if h : cnt ≤ 1 then []
  else if i < halfN cnt then true :: upL (halfN cnt) i
  else false :: upL (cnt - halfN cnt) (i - halfN cnt)
termination_by cnt
decreasing_by
  · have := halfN_lt (n := cnt) (by omega); omega
  · have := halfN_lt (n := cnt) (by omega); omega
/-- The node of what one has and what stands beside it. -/
def stepD (b : Int) (u : Bool) (d x : D32) : D32 := if u = true then ⟨nodeD b d.val x.val, Len32.len⟩ else ⟨nodeD b x.val d.val, Len32.len⟩
/-- The way up. -/
def climb (b : Int) : List Bool → List D32 → D32 → D32
  | u :: us, x :: xs, d => climb b us xs (stepD b u d x)
  | _, _, d => d
theorem climb_step (b : Int) {U : List Bool} {path : List D32} (d : D32) {q : Nat} (hp : path.length = U.length) (hq : q < path.length) : climb b (U.reverse.drop q) (path.drop q) d = climb b (U.reverse.drop (q + 1)) (path.drop (q + 1)) (stepD b (U.getD (U.length - 1 - q) default) d (path.getD q default)) := by
  have h1 : q < U.reverse.length := by rw [List.length_reverse]; omega
  rw [List.drop_eq_getElem_cons h1, List.drop_eq_getElem_cons hq]
  show climb b _ _ (stepD b _ d _) = _
  have e1 : U.reverse[q] = U.getD (U.length - 1 - q) default := by
    rw [List.getElem_reverse, List.getD_eq_getElem?_getD, List.getElem?_eq_getElem (by omega)]; rfl
  have e2 : path[q] = path.getD q default := by rw [List.getD_eq_getElem?_getD, List.getElem?_eq_getElem hq]; rfl
  rw [e1, e2]
def fnU (u : Bool) : AV := .val (.func (.func (bif u then 71 else 103)) #[] #[])
instance : Enc fnU 1 := ⟨fun u => ⟨rfl, fun c hc => by rw [List.mem_singleton.1 (show c ∈ [fnU u] from hc)]; rfl⟩, by decide, fun _ => rfl⟩
instance : ElemF [.val .nilFunc] Bool fnU := ⟨trivial⟩
instance : AsF fnU (.val (.func (.func 71) #[] #[])) true := ⟨rfl⟩
instance : AsF fnU (.val (.func (.func 103) #[] #[])) false := ⟨rfl⟩
instance (u : Bool) : Cells (fnU u) [fnU u] := ⟨rfl⟩
theorem upL_log : ∀ (m cnt i : Nat), cnt ≤ 2 ^ m → (upL cnt i).length ≤ m := by
  intro m
  induction m with
  | zero =>
    intro cnt i h
    unfold upL
    rw [dif_pos (by simpa using h)]
    simp
  | succ m ih =>
    intro cnt i h
    unfold upL
    split
    · simp
    · rename_i h1
      obtain ⟨h2, h3⟩ := halfN_log (n := cnt) (by omega) h
      split
      · have := ih _ i h2
        simp only [List.length_cons]; omega
      · have := ih _ (i - halfN cnt) h3
        simp only [List.length_cons]; omega
theorem upL_63 {cnt : Nat} (h : cnt ≤ 9223372036854775807) (i : Nat) : (upL cnt i).length ≤ 63 := upL_log 63 cnt i (by simpa using Nat.le_of_lt (Nat.lt_succ_of_le h))
/-- Is a leaf under a root. -/
def checkB (b : Int) (root : D32) (cnt i : Nat) (leaf : List UInt8) (path : List D32) : Bool :=
  decide (path.length = (upL cnt i).length) && decide ((climb b (upL cnt i).reverse path ⟨leafD b leaf, Len32.len⟩).val = root.val)
theorem Check_nat (b : Int) (root : List UInt8) [hr : Len32 root] (cnt i : Nat) (leaf : List UInt8) (m m' : SM) (path : List D32) (hi : i < cnt) (hc : cnt ≤ 9223372036854775807) (hl : leaf.length ≤ 100000000000000) :
    aPure Go.Proofs.Try.prog 64 [trA b, dgA root, I .i64 (cnt : Nat), I .i64 (i : Nat), .lst 1 (leaf.map byt) m, .lst 32 (path.map dgF) m'] (B (checkB b ⟨root, hr.len⟩ cnt i leaf path)) := by
  refine ACalls.fin (tree_Tree_Check.go ?_)
  unfold tree_Tree_Check.sh
  repeat' (first | with_reducible apply Stp.go | with_reducible refine imp fun _ => ?_ | (with_reducible refine hyp ?_ ?_; first | assumption | exact leftT_mem (by assumption)) | (with_reducible refine need ?_ ?_; first | trivial | omega | exact ⟨by assumption, by omega⟩ | (simp only [List.length_append, List.length_cons, List.length_nil, List.length_map, List.length_take, List.length_drop, List.length_replicate, List.length_set]; omega)) | (with_reducible refine fact ?_ ?_; first | trivial | exact ⟨rfl, rfl⟩ | kernel_rfl) | with_reducible refine choT (by assumption) ?_ | with_reducible refine choF (by assumption) ?_ | with_reducible refine choF' (by assumption) ?_ | (with_reducible refine altT ?_ ?_; first | omega | (simp only [List.length_append, List.length_cons, List.length_nil, List.length_map, List.length_take, List.length_drop, List.length_replicate, List.length_set]; omega)) | with_reducible refine altF ?_ | with_reducible refine all fun _ => ?_ | with_reducible refine both ?_ ?_ | (with_reducible refine choT ?_ ?_; omega) | (with_reducible refine choF ?_ ?_; omega) | with_reducible refine cho (fun _ => ?_) (fun _ => ?_))
  refine loopI (β := Nat × Nat × Value × List Bool) (fun x => x.2.1 < x.1 ∧ x.1 ≤ cnt ∧ x.2.2.2 ++ upL x.1 x.2.1 = upL cnt i) (fun x => [I .i64 (x.1 : Nat), I .i64 (x.2.1 : Nat), .lst 1 (leaf.map byt) m, .lst 32 (path.map dgF) m', .rptr [I .i64 b], .rptr (root.map byt), .own x.2.2.1 x.2.2.2.length]) (fun x => [.row x.2.2.1 145 1 (x.2.2.2.map fnU) 0]) (fun x => x.1) (cnt, i, .slice none 0 0, []) ⟨hi, Nat.le_refl _, rfl⟩ (Sub.nil_own 145 (sz := 1) (by decide) [] [I .i64 (cnt : Nat), I .i64 (i : Nat), .lst 1 (leaf.map byt) m, .lst 32 (path.map dgF) m', .rptr [I .i64 b], .rptr (root.map byt)] []) ?_
  rintro ⟨n, j, v, us⟩ ⟨h1, h2, h3⟩
  dsimp only at h1 h2 h3 ⊢
  have hul := upL_63 hc i
  have hus : us.length ≤ 63 := by have := congrArg List.length h3; rw [List.length_append] at this; omega
  by_cases h4 : n ≤ 1
  · have e : upL n j = [] := by unfold upL; rw [dif_pos h4]
    rw [e, List.append_nil] at h3
    subst h3
    have hk : (leafD b leaf).length = 32 := Len32.len
    have hr2 := hr.len
    by_cases hp : path.length = (upL cnt i).length
    · generalize hU : upL cnt i = U at *
      have e0 : checkB b ⟨root, hr.len⟩ cnt i leaf path = decide ((climb b U.reverse path ⟨leafD b leaf, hk⟩).val = root) := by
        rw [checkB, hU, decide_eq_true hp, Bool.true_and]
      rw [e0]
      repeat' (first | with_reducible apply Stp.go | with_reducible refine imp fun _ => ?_ | (with_reducible refine hyp ?_ ?_; first | assumption | exact leftT_mem (by assumption)) | (with_reducible refine need ?_ ?_; first | trivial | omega | exact ⟨by assumption, by omega⟩ | (simp only [List.length_append, List.length_cons, List.length_nil, List.length_map, List.length_take, List.length_drop, List.length_replicate, List.length_set]; omega)) | (with_reducible refine fact ?_ ?_; first | trivial | exact ⟨rfl, rfl⟩ | kernel_rfl) | with_reducible refine choT (by assumption) ?_ | with_reducible refine choF (by assumption) ?_ | with_reducible refine choF' (by assumption) ?_ | (with_reducible refine altT ?_ ?_; first | omega | (simp only [List.length_append, List.length_cons, List.length_nil, List.length_map, List.length_take, List.length_drop, List.length_replicate, List.length_set]; omega)) | with_reducible refine altF ?_ | with_reducible refine all fun _ => ?_ | with_reducible refine both ?_ ?_ | (with_reducible refine choT ?_ ?_; omega) | (with_reducible refine choF ?_ ?_; omega) | with_reducible refine cho (fun _ => ?_) (fun _ => ?_))
      refine loopI (β := Nat × D32) (fun x => x.1 ≤ path.length ∧ climb b (U.reverse.drop x.1) (path.drop x.1) x.2 = climb b U.reverse path ⟨leafD b leaf, hk⟩) (fun x => [.rptr [I .i64 b], .rptr (root.map byt), .own v U.length, ptrAt _ 0, .lst 32 (path.map dgF) m', I .i64 (path.length : Nat), I .i64 (x.1 : Nat)]) (fun x => [.var _ DgT (x.2.val.map byt), .row v 145 1 (U.map fnU) 0]) (fun x => path.length - x.1) (0, ⟨leafD b leaf, hk⟩) ⟨Nat.zero_le _, rfl⟩ (Sub.refl _ _) ?_
      rintro ⟨q, d⟩ ⟨g1, g2⟩
      dsimp only at g1 g2 ⊢
      have gd := d.len
      by_cases g3 : q < path.length
      · have g4 : U.length - 1 - q < U.length := by omega
        have gp := (path.getD q default).len
        have gs := climb_step b d hp g3
        have n1 : (nodeD b d.val (path.getD q default).val).length = 32 := Len32.len
        have n2 : (nodeD b (path.getD q default).val d.val).length = 32 := Len32.len
        cases hu : U.getD (U.length - 1 - q) default with
        | true =>
          repeat' (first | with_reducible apply Stp.go | with_reducible refine imp fun _ => ?_ | (with_reducible refine hyp ?_ ?_; first | assumption | exact leftT_mem (by assumption)) | (with_reducible refine need ?_ ?_; first | trivial | omega | exact ⟨by assumption, by omega⟩ | (simp only [List.length_append, List.length_cons, List.length_nil, List.length_map, List.length_take, List.length_drop, List.length_replicate, List.length_set]; omega)) | (with_reducible refine fact ?_ ?_; first | trivial | exact ⟨rfl, rfl⟩ | kernel_rfl) | with_reducible refine choT (by assumption) ?_ | with_reducible refine choF (by assumption) ?_ | with_reducible refine choF' (by assumption) ?_ | (with_reducible refine altT ?_ ?_; first | omega | (simp only [List.length_append, List.length_cons, List.length_nil, List.length_map, List.length_take, List.length_drop, List.length_replicate, List.length_set]; omega)) | with_reducible refine altF ?_ | with_reducible refine all fun _ => ?_ | with_reducible refine both ?_ ?_ | (with_reducible refine choT ?_ ?_; omega) | (with_reducible refine choF ?_ ?_; omega) | with_reducible refine cho (fun _ => ?_) (fun _ => ?_))
          rw [hu, show fnU true = .val (.func (.func 71) #[] #[]) from rfl]
          repeat' (first | with_reducible apply Stp.go | with_reducible refine imp fun _ => ?_ | (with_reducible refine hyp ?_ ?_; first | assumption | exact leftT_mem (by assumption)) | (with_reducible refine need ?_ ?_; first | trivial | omega | exact ⟨by assumption, by omega⟩ | (simp only [List.length_append, List.length_cons, List.length_nil, List.length_map, List.length_take, List.length_drop, List.length_replicate, List.length_set]; omega)) | (with_reducible refine fact ?_ ?_; first | trivial | exact ⟨rfl, rfl⟩ | kernel_rfl) | with_reducible refine choT (by assumption) ?_ | with_reducible refine choF (by assumption) ?_ | with_reducible refine choF' (by assumption) ?_ | (with_reducible refine altT ?_ ?_; first | omega | (simp only [List.length_append, List.length_cons, List.length_nil, List.length_map, List.length_take, List.length_drop, List.length_replicate, List.length_set]; omega)) | with_reducible refine altF ?_ | with_reducible refine all fun _ => ?_ | with_reducible refine both ?_ ?_ | (with_reducible refine choT ?_ ?_; omega) | (with_reducible refine choF ?_ ?_; omega) | with_reducible refine cho (fun _ => ?_) (fun _ => ?_))
          rw [hu] at gs
          refine again (q + 1, ⟨nodeD b d.val (path.getD q default).val, n1⟩) (by dsimp only; omega) ⟨by dsimp only; omega, ?_⟩ (Sub.drop_ (List.sublist_cons_self _ _) _)
          dsimp only
          rw [← g2, gs]
          rfl
        | false =>
          repeat' (first | with_reducible apply Stp.go | with_reducible refine imp fun _ => ?_ | (with_reducible refine hyp ?_ ?_; first | assumption | exact leftT_mem (by assumption)) | (with_reducible refine need ?_ ?_; first | trivial | omega | exact ⟨by assumption, by omega⟩ | (simp only [List.length_append, List.length_cons, List.length_nil, List.length_map, List.length_take, List.length_drop, List.length_replicate, List.length_set]; omega)) | (with_reducible refine fact ?_ ?_; first | trivial | exact ⟨rfl, rfl⟩ | kernel_rfl) | with_reducible refine choT (by assumption) ?_ | with_reducible refine choF (by assumption) ?_ | with_reducible refine choF' (by assumption) ?_ | (with_reducible refine altT ?_ ?_; first | omega | (simp only [List.length_append, List.length_cons, List.length_nil, List.length_map, List.length_take, List.length_drop, List.length_replicate, List.length_set]; omega)) | with_reducible refine altF ?_ | with_reducible refine all fun _ => ?_ | with_reducible refine both ?_ ?_ | (with_reducible refine choT ?_ ?_; omega) | (with_reducible refine choF ?_ ?_; omega) | with_reducible refine cho (fun _ => ?_) (fun _ => ?_))
          rw [hu, show fnU false = .val (.func (.func 103) #[] #[]) from rfl]
          repeat' (first | with_reducible apply Stp.go | with_reducible refine imp fun _ => ?_ | (with_reducible refine hyp ?_ ?_; first | assumption | exact leftT_mem (by assumption)) | (with_reducible refine need ?_ ?_; first | trivial | omega | exact ⟨by assumption, by omega⟩ | (simp only [List.length_append, List.length_cons, List.length_nil, List.length_map, List.length_take, List.length_drop, List.length_replicate, List.length_set]; omega)) | (with_reducible refine fact ?_ ?_; first | trivial | exact ⟨rfl, rfl⟩ | kernel_rfl) | with_reducible refine choT (by assumption) ?_ | with_reducible refine choF (by assumption) ?_ | with_reducible refine choF' (by assumption) ?_ | (with_reducible refine altT ?_ ?_; first | omega | (simp only [List.length_append, List.length_cons, List.length_nil, List.length_map, List.length_take, List.length_drop, List.length_replicate, List.length_set]; omega)) | with_reducible refine altF ?_ | with_reducible refine all fun _ => ?_ | with_reducible refine both ?_ ?_ | (with_reducible refine choT ?_ ?_; omega) | (with_reducible refine choF ?_ ?_; omega) | with_reducible refine cho (fun _ => ?_) (fun _ => ?_))
          rw [hu] at gs
          refine again (q + 1, ⟨nodeD b (path.getD q default).val d.val, n2⟩) (by dsimp only; omega) ⟨by dsimp only; omega, ?_⟩ (Sub.drop_ (List.sublist_cons_self _ _) _)
          dsimp only
          rw [← g2, gs]
          rfl
      · have g4 : q = path.length := by omega
        subst g4
        rw [List.drop_length] at g2
        have g5 : climb b (U.reverse.drop path.length) [] d = d := by
          cases U.reverse.drop path.length <;> rfl
        rw [g5] at g2
        rw [← g2]
        repeat' (first | with_reducible apply Stp.go | with_reducible refine imp fun _ => ?_ | (with_reducible refine hyp ?_ ?_; first | assumption | exact leftT_mem (by assumption)) | (with_reducible refine need ?_ ?_; first | trivial | omega | exact ⟨by assumption, by omega⟩ | (simp only [List.length_append, List.length_cons, List.length_nil, List.length_map, List.length_take, List.length_drop, List.length_replicate, List.length_set]; omega)) | (with_reducible refine fact ?_ ?_; first | trivial | exact ⟨rfl, rfl⟩ | kernel_rfl) | with_reducible refine choT (by assumption) ?_ | with_reducible refine choF (by assumption) ?_ | with_reducible refine choF' (by assumption) ?_ | (with_reducible refine altT ?_ ?_; first | omega | (simp only [List.length_append, List.length_cons, List.length_nil, List.length_map, List.length_take, List.length_drop, List.length_replicate, List.length_set]; omega)) | with_reducible refine altF ?_ | with_reducible refine all fun _ => ?_ | with_reducible refine both ?_ ?_ | (with_reducible refine choT ?_ ?_; omega) | (with_reducible refine choF ?_ ?_; omega) | with_reducible refine cho (fun _ => ?_) (fun _ => ?_))
        exact ⟨_, _, _, rfl, Sub.app_nil _, rfl, rfl⟩
    · repeat' (first | with_reducible apply Stp.go | with_reducible refine imp fun _ => ?_ | (with_reducible refine hyp ?_ ?_; first | assumption | exact leftT_mem (by assumption)) | (with_reducible refine need ?_ ?_; first | trivial | omega | exact ⟨by assumption, by omega⟩ | (simp only [List.length_append, List.length_cons, List.length_nil, List.length_map, List.length_take, List.length_drop, List.length_replicate, List.length_set]; omega)) | (with_reducible refine fact ?_ ?_; first | trivial | exact ⟨rfl, rfl⟩ | kernel_rfl) | with_reducible refine choT (by assumption) ?_ | with_reducible refine choF (by assumption) ?_ | with_reducible refine choF' (by assumption) ?_ | (with_reducible refine altT ?_ ?_; first | omega | (simp only [List.length_append, List.length_cons, List.length_nil, List.length_map, List.length_take, List.length_drop, List.length_replicate, List.length_set]; omega)) | with_reducible refine altF ?_ | with_reducible refine all fun _ => ?_ | with_reducible refine both ?_ ?_ | (with_reducible refine choT ?_ ?_; omega) | (with_reducible refine choF ?_ ?_; omega) | with_reducible refine cho (fun _ => ?_) (fun _ => ?_))
      refine ⟨_, _, _, rfl, Sub.app_nil _, ?_, rfl⟩
      rw [checkB, decide_eq_false hp, Bool.false_and]
  · have hh := halfN_lt (n := n) (by omega)
    by_cases h5 : j < halfN n
    · have e : upL n j = true :: upL (halfN n) j := by
        conv => lhs; unfold upL
        rw [dif_neg h4, if_pos h5]
      rw [e] at h3
      repeat' (first | with_reducible apply Stp.go | with_reducible refine imp fun _ => ?_ | (with_reducible refine hyp ?_ ?_; first | assumption | exact leftT_mem (by assumption)) | (with_reducible refine need ?_ ?_; first | trivial | omega | exact ⟨by assumption, by omega⟩ | (simp only [List.length_append, List.length_cons, List.length_nil, List.length_map, List.length_take, List.length_drop, List.length_replicate, List.length_set]; omega)) | (with_reducible refine fact ?_ ?_; first | trivial | exact ⟨rfl, rfl⟩ | kernel_rfl) | with_reducible refine choT (by assumption) ?_ | with_reducible refine choF (by assumption) ?_ | with_reducible refine choF' (by assumption) ?_ | (with_reducible refine altT ?_ ?_; first | omega | (simp only [List.length_append, List.length_cons, List.length_nil, List.length_map, List.length_take, List.length_drop, List.length_replicate, List.length_set]; omega)) | with_reducible refine altF ?_ | with_reducible refine all fun _ => ?_ | with_reducible refine both ?_ ?_ | (with_reducible refine choT ?_ ?_; omega) | (with_reducible refine choF ?_ ?_; omega) | with_reducible refine cho (fun _ => ?_) (fun _ => ?_))
      rename_i w
      exact again (halfN n, j, w, us ++ [true]) (by dsimp only; omega) ⟨by dsimp only; omega, by dsimp only; omega, by dsimp only; rw [List.append_assoc]; exact h3⟩ (Sub.refl _ _)
    · have e : upL n j = false :: upL (n - halfN n) (j - halfN n) := by
        conv => lhs; unfold upL
        rw [dif_neg h4, if_neg h5]
      rw [e] at h3
      repeat' (first | with_reducible apply Stp.go | with_reducible refine imp fun _ => ?_ | (with_reducible refine hyp ?_ ?_; first | assumption | exact leftT_mem (by assumption)) | (with_reducible refine need ?_ ?_; first | trivial | omega | exact ⟨by assumption, by omega⟩ | (simp only [List.length_append, List.length_cons, List.length_nil, List.length_map, List.length_take, List.length_drop, List.length_replicate, List.length_set]; omega)) | (with_reducible refine fact ?_ ?_; first | trivial | exact ⟨rfl, rfl⟩ | kernel_rfl) | with_reducible refine choT (by assumption) ?_ | with_reducible refine choF (by assumption) ?_ | with_reducible refine choF' (by assumption) ?_ | (with_reducible refine altT ?_ ?_; first | omega | (simp only [List.length_append, List.length_cons, List.length_nil, List.length_map, List.length_take, List.length_drop, List.length_replicate, List.length_set]; omega)) | with_reducible refine altF ?_ | with_reducible refine all fun _ => ?_ | with_reducible refine both ?_ ?_ | (with_reducible refine choT ?_ ?_; omega) | (with_reducible refine choF ?_ ?_; omega) | with_reducible refine cho (fun _ => ?_) (fun _ => ?_))
      rename_i w
      exact again (n - halfN n, j - halfN n, w, us ++ [false]) (by dsimp only; omega) ⟨by dsimp only; omega, by dsimp only; omega, by dsimp only; rw [List.append_assoc]; exact h3⟩ (Sub.refl _ _)
/-- Likewise, of any place and count. -/
def checkZ (b : Int) (root : D32) (cnt i : Int) (leaf : List UInt8) (path : List D32) : Bool := decide (0 ≤ i ∧ i < cnt) && checkB b root cnt.toNat i.toNat leaf path
theorem checkZ_in {b : Int} {root : D32} {cnt i : Int} {leaf : List UInt8} {path : List D32} (h : checkZ b root cnt i leaf path = true) : 0 ≤ i ∧ i < cnt := by
  unfold checkZ at h
  rw [Bool.and_eq_true, decide_eq_true_eq] at h
  exact h.1
theorem checkZ_nat (b : Int) (root : D32) {cnt i : Nat} (leaf : List UInt8) (path : List D32) (h : i < cnt) : checkZ b root cnt i leaf path = checkB b root cnt i leaf path := by
  rw [checkZ, decide_eq_true (show (0 : Int) ≤ i ∧ (i : Int) < cnt by omega), Bool.true_and, Int.toNat_natCast, Int.toNat_natCast]
theorem Check_ok (b : Int) (root : List UInt8) [hr : Len32 root] (cnt i : Int) (leaf : List UInt8) (m m' : SM) (path : List D32) (hc : cnt ≤ 9223372036854775807) (hl : leaf.length ≤ 100000000000000) :
    aPure Go.Proofs.Try.prog 64 [trA b, dgA root, I .i64 cnt, I .i64 i, .lst 1 (leaf.map byt) m, .lst 32 (path.map dgF) m'] (B (checkZ b ⟨root, hr.len⟩ cnt i leaf path)) := by
  by_cases h : 0 ≤ i ∧ i < cnt
  · obtain ⟨n, rfl⟩ := Int.eq_ofNat_of_zero_le (show 0 ≤ cnt by omega)
    obtain ⟨j, rfl⟩ := Int.eq_ofNat_of_zero_le h.1
    rw [checkZ_nat _ _ _ _ (by omega)]
    exact Check_nat b root n j leaf m m' path (by omega) (by omega) hl
  · rw [checkZ, decide_eq_false h, Bool.false_and]
    refine ACalls.fin (tree_Tree_Check.go ?_)
    unfold tree_Tree_Check.sh
    by_cases h0 : i < 0
    · repeat' (first | with_reducible apply Stp.go | with_reducible refine imp fun _ => ?_ | (with_reducible refine hyp ?_ ?_; first | assumption | exact leftT_mem (by assumption)) | (with_reducible refine need ?_ ?_; first | trivial | omega | exact ⟨by assumption, by omega⟩ | (simp only [List.length_append, List.length_cons, List.length_nil, List.length_map, List.length_take, List.length_drop, List.length_replicate, List.length_set]; omega)) | (with_reducible refine fact ?_ ?_; first | trivial | exact ⟨rfl, rfl⟩ | kernel_rfl) | with_reducible refine choT (by assumption) ?_ | with_reducible refine choF (by assumption) ?_ | with_reducible refine choF' (by assumption) ?_ | (with_reducible refine altT ?_ ?_; first | omega | (simp only [List.length_append, List.length_cons, List.length_nil, List.length_map, List.length_take, List.length_drop, List.length_replicate, List.length_set]; omega)) | with_reducible refine altF ?_ | with_reducible refine all fun _ => ?_ | with_reducible refine both ?_ ?_ | (with_reducible refine choT ?_ ?_; omega) | (with_reducible refine choF ?_ ?_; omega) | with_reducible refine cho (fun _ => ?_) (fun _ => ?_))
      exact ⟨_, _, _, rfl, Sub.app_nil _, rfl, rfl⟩
    · have h1 : cnt ≤ i := by omega
      repeat' (first | with_reducible apply Stp.go | with_reducible refine imp fun _ => ?_ | (with_reducible refine hyp ?_ ?_; first | assumption | exact leftT_mem (by assumption)) | (with_reducible refine need ?_ ?_; first | trivial | omega | exact ⟨by assumption, by omega⟩ | (simp only [List.length_append, List.length_cons, List.length_nil, List.length_map, List.length_take, List.length_drop, List.length_replicate, List.length_set]; omega)) | (with_reducible refine fact ?_ ?_; first | trivial | exact ⟨rfl, rfl⟩ | kernel_rfl) | with_reducible refine choT (by assumption) ?_ | with_reducible refine choF (by assumption) ?_ | with_reducible refine choF' (by assumption) ?_ | (with_reducible refine altT ?_ ?_; first | omega | (simp only [List.length_append, List.length_cons, List.length_nil, List.length_map, List.length_take, List.length_drop, List.length_replicate, List.length_set]; omega)) | with_reducible refine altF ?_ | with_reducible refine all fun _ => ?_ | with_reducible refine both ?_ ?_ | (with_reducible refine choT ?_ ?_; omega) | (with_reducible refine choF ?_ ?_; omega) | with_reducible refine cho (fun _ => ?_) (fun _ => ?_))
      exact ⟨_, _, _, rfl, Sub.app_nil _, rfl, rfl⟩
instance {a a2 : AV} {root leaf : List UInt8} {m m' : SM} {b : Int} {cnt i : Int} {path : List D32} [hr : Len32 root] [h : IsL a byt 1 leaf m] [h2 : IsL a2 dgF 32 path m'] : PC Go.Proofs.Try.prog 64 [trA b, dgA root, I .i64 cnt, I .i64 i, a, a2] (cnt ≤ 9223372036854775807 ∧ leaf.length ≤ 100000000000000) (B (checkZ b ⟨root, hr.len⟩ cnt i leaf path)) := ⟨fun hl => ⟨[trA b, dgA root, I .i64 cnt, I .i64 i, .lst 1 (leaf.map byt) m, .lst 32 (path.map dgF) m'], ⟨SubV.refl _, SubV.refl _, SubV.refl _, SubV.refl _, h.sub, h2.sub, trivial⟩, Check_ok b root cnt i leaf m m' path hl.1 hl.2⟩⟩
/-- The path of a leaf leads to the root. -/
theorem climb_snoc (b : Int) : ∀ (us : List Bool) (xs : List D32) (u : Bool) (x d : D32), us.length = xs.length → climb b (us ++ [u]) (xs ++ [x]) d = stepD b u (climb b us xs d) x
  | [], [], u, x, d, _ => rfl
  | v :: us, y :: xs, u, x, d, h => climb_snoc b us xs u x (stepD b v d y) (by simpa using h)
theorem path_root (b : Int) : ∀ (n : Nat) (L : List (List UInt8)) (i : Nat), L.length = n → i < n → (pathD b L i).length = (upL n i).length ∧ (climb b (upL n i).reverse (pathD b L i) ⟨leafD b (L.getD i default), Len32.len⟩).val = rootD b L := by
  intro n
  induction n using Nat.strongRecOn with
  | _ n ih =>
    intro L i hn hi
    by_cases h1 : n ≤ 1
    · have e1 : pathD b L i = [] := by unfold pathD; rw [dif_pos (by omega)]
      have e2 : upL n i = [] := by unfold upL; rw [dif_pos h1]
      have e3 : rootD b L = leafD b (L.getD 0 default) := by unfold rootD; rw [dif_neg (by omega), dif_pos (by omega)]
      have e4 : i = 0 := by omega
      subst e4
      rw [e1, e2, e3]
      exact ⟨rfl, rfl⟩
    · have hh := halfN_lt (n := n) (by omega)
      have l1 : (L.take (halfN n)).length = halfN n := by rw [List.length_take]; omega
      have l2 : (L.drop (halfN n)).length = n - halfN n := by rw [List.length_drop, hn]
      have e3 : rootD b L = nodeD b (rootD b (L.take (halfN n))) (rootD b (L.drop (halfN n))) := by
        conv => lhs; unfold rootD
        rw [dif_neg (by omega), dif_neg (by omega), hn]
      by_cases h2 : i < halfN n
      · have e1 : pathD b L i = pathD b (L.take (halfN n)) i ++ [rootF b (L.drop (halfN n))] := by
          conv => lhs; unfold pathD
          rw [dif_neg (by omega), hn, if_pos h2]
        have e2 : upL n i = true :: upL (halfN n) i := by
          conv => lhs; unfold upL
          rw [dif_neg h1, if_pos h2]
        obtain ⟨i1, i2⟩ := ih (halfN n) hh.2 (L.take (halfN n)) i l1 h2
        have e5 : (L.take (halfN n)).getD i default = L.getD i default := by
          rw [List.getD_eq_getElem?_getD, List.getD_eq_getElem?_getD, List.getElem?_take, if_pos h2]
        rw [e5] at i2
        rw [e1, e2, e3]
        refine ⟨by simp [i1], ?_⟩
        rw [List.reverse_cons, climb_snoc b _ _ _ _ _ (by rw [List.length_reverse]; exact i1.symm)]
        show nodeD b (climb b _ _ _).val _ = _
        rw [i2]
      · have e1 : pathD b L i = pathD b (L.drop (halfN n)) (i - halfN n) ++ [rootF b (L.take (halfN n))] := by
          conv => lhs; unfold pathD
          rw [dif_neg (by omega), hn, if_neg h2]
        have e2 : upL n i = false :: upL (n - halfN n) (i - halfN n) := by
          conv => lhs; unfold upL
          rw [dif_neg h1, if_neg h2]
        obtain ⟨i1, i2⟩ := ih (n - halfN n) (by omega) (L.drop (halfN n)) (i - halfN n) l2 (by omega)
        have e5 : (L.drop (halfN n)).getD (i - halfN n) default = L.getD i default := by
          rw [List.getD_eq_getElem?_getD, List.getD_eq_getElem?_getD, List.getElem?_drop, show halfN n + (i - halfN n) = i by omega]
        rw [e5] at i2
        rw [e1, e2, e3]
        refine ⟨by simp [i1], ?_⟩
        rw [List.reverse_cons, climb_snoc b _ _ _ _ _ (by rw [List.length_reverse]; exact i1.symm)]
        show nodeD b _ (climb b _ _ _).val = _
        rw [i2]
end Go.Ab

/- The reference's fold. -/
set_option linter.unusedVariables false
set_option linter.unusedSimpArgs false
namespace Go.Ab
theorem foldE_take_succ {l : List En} {i : Nat} (h : i < l.length) : foldE (l.take (i + 1)) = putE (l.getD i default) (foldE (l.take i)) := by rw [take_succ_d h, foldE_snoc]
end Go.Ab

/-
  DERIVED: THE SHELF's CONTRACTS AT THIS DUMP, IN PLAIN WORDS (tools/lay-plain.mjs out of 'YtobhbepiaibceaaSrtLay0.lean', which tools/lay-shelf.mjs wrote): THE SAME DECLARATIONS UNDER THE SAME NAMES: 'import', 'namespace', 'open', 'def', 'theorem' AND NOTHING ELSE: no command of the shelf's: FOR A HAND-IN. Each laying: the table of numbers ('.._ren') and one theorem, a field a fact of the dump's own or the kernel's comparison; each contract: ONE APPLICATION.
-/
namespace Go.Proofs
open Go.Shelf
def Try.sortEn_ren : Go.Shelf.Ren := ⟨fun | 6 => 99 | 15 => 122 | 14 => 121 | 28 => 141 | 29 => 142 | 20 => 133 | 21 => 134 | 22 => 135 | 23 => 136 | 24 => 137 | 25 => 138 | 26 => 139 | 27 => 140 | 46 => 146 | 47 => 147 | 48 => 148 | 49 => 149 | 50 => 150 | 57 => 156 | n => n, fun | 22 => 22 | 24 => 54 | 25 => 130 | 3 => 3 | 39 => 149 | 0 => 0 | 53 => 187 | 55 => 143 | 4 => 4 | 46 => 181 | 45 => 180 | 50 => 67 | 5 => 5 | 9 => 9 | 66 => 196 | 70 => 199 | 76 => 206 | 77 => 207 | n => n, fun | n => n⟩
theorem Try.sortEn : Go.Proofs.SlLaysF0.n6 Try.prog Try.sortEn_ren := {
  mixed := by kernel_rfl
  f6 := ⟨Try.f99.name, by decide, Try.func99.trans (congrArg some (by kernel_rfl))⟩
  f14 := ⟨Try.f121.name, by decide, Try.func121.trans (congrArg some (by kernel_rfl))⟩
  f15 := Try.func122.trans (congrArg some (by kernel_rfl))
  f20 := ⟨Try.f133.name, by decide, Try.func133.trans (congrArg some (by kernel_rfl))⟩
  f21 := ⟨Try.f134.name, by decide, Try.func134.trans (congrArg some (by kernel_rfl))⟩
  f22 := ⟨Try.f135.name, by decide, Try.func135.trans (congrArg some (by kernel_rfl))⟩
  f23 := ⟨Try.f136.name, by decide, Try.func136.trans (congrArg some (by kernel_rfl))⟩
  f24 := ⟨Try.f137.name, by decide, Try.func137.trans (congrArg some (by kernel_rfl))⟩
  f25 := ⟨Try.f138.name, by decide, Try.func138.trans (congrArg some (by kernel_rfl))⟩
  f26 := ⟨Try.f139.name, by decide, Try.func139.trans (congrArg some (by kernel_rfl))⟩
  f27 := ⟨Try.f140.name, by decide, Try.func140.trans (congrArg some (by kernel_rfl))⟩
  f28 := Try.func141.trans (congrArg some (by kernel_rfl))
  f29 := Try.func142.trans (congrArg some (by kernel_rfl))
  f46 := ⟨Try.f146.name, by decide, Try.func146.trans (congrArg some (by kernel_rfl))⟩
  f47 := Try.func147.trans (congrArg some (by kernel_rfl))
  f48 := Try.func148.trans (congrArg some (by kernel_rfl))
  f49 := ⟨Try.f149.name, by decide, Try.func149.trans (congrArg some (by kernel_rfl))⟩
  f50 := ⟨Try.f150.name, by decide, Try.func150.trans (congrArg some (by kernel_rfl))⟩
  f57 := ⟨Try.f156.name, by decide, Try.func156.trans (congrArg some (by kernel_rfl))⟩
  t0 := Try.underlying0
  a0 := Try.isAgg0
  z0 := Try.sizeOf0
  v0 := Try.zeroValue0
  t3 := Try.underlying3
  a3 := Try.isAgg3
  z3 := Try.sizeOf3
  v3 := Try.zeroValue3
  t4 := Try.underlying4
  a4 := Try.isAgg4
  z4 := Try.sizeOf4
  v4 := Try.zeroValue4
  t5 := Try.underlying5
  a5 := Try.isAgg5
  z5 := Try.sizeOf5
  v5 := Try.zeroValue5
  t9 := Try.underlying9
  a9 := Try.isAgg9
  z9 := Try.sizeOf9
  v9 := Try.zeroValue9
  t22 := Try.underlying22
  a22 := Try.isAgg22
  z22 := Try.sizeOf22
  v22 := Try.zeroValue22
  t25 := Try.underlying130
  a25 := Try.isAgg130
  z25 := Try.sizeOf130
  v25 := Try.zeroValue130
  t39 := Try.underlying149
  a39 := Try.isAgg149
  z39 := Try.sizeOf149
  v39 := Try.zeroValue149
  t45 := Try.underlying180
  a45 := Try.isAgg180
  z45 := Try.sizeOf180
  v45 := Try.zeroValue180
  t46 := Try.underlying181
  a46 := Try.isAgg181
  z46 := Try.sizeOf181
  v46 := Try.zeroValue181
  t50 := Try.underlying67
  a50 := Try.isAgg67
  z50 := Try.sizeOf67
  v50 := Try.zeroValue67
  t53 := Try.underlying187
  a53 := Try.isAgg187
  z53 := Try.sizeOf187
  v53 := Try.zeroValue187
  t55 := Try.underlying143
  a55 := Try.isAgg143
  z55 := Try.sizeOf143
  v55 := Try.zeroValue143
  t66 := Try.underlying196
  a66 := Try.isAgg196
  z66 := Try.sizeOf196
  v66 := Try.zeroValue196
  t70 := Try.underlying199
  a70 := Try.isAgg199
  z70 := Try.sizeOf199
  v70 := Try.zeroValue199
  t76 := Try.underlying206
  a76 := Try.isAgg206
  z76 := Try.sizeOf206
  v76 := Try.zeroValue206
  t77 := Try.underlying207
  a77 := Try.isAgg207
  z77 := Try.sizeOf207
  v77 := Try.zeroValue207 }
end Go.Proofs

/- slices.SortFunc at entries: from the kit's contract to a call told of abstract states. -/
set_option linter.unusedVariables false
set_option linter.unusedSimpArgs false
namespace Go.Ab
open Go.Proofs Go.Shelf Go.RowKit Go.Lib Go.Sort
theorem isNaN_walk (x : ByteArray) (W : World) : Calls Go.Proofs.Try.prog 130 #[.string x] W fun e w' => e = .returned (.bool false) ∧ w' = W := by
  go_enter Go.Proofs.Try.func130, Go.Proofs.Try.ntmps130
  go_wp2
  go_ret
  exact ⟨rfl, rfl⟩
set_option maxHeartbeats 1000000 in
theorem compare_walk (a b : List UInt8) (W : World) : Calls Go.Proofs.Try.prog 116 #[.string ⟨a.toArray⟩, .string ⟨b.toArray⟩] W fun e w' => e = .returned (.int .i64 (cmpK a b)) ∧ w' = W := by
  have h86 := isNaN_walk
  have hg : ∀ w, (binOp .gtr 9 (.string ⟨a.toArray⟩) (.string ⟨b.toArray⟩)).run Go.Proofs.Try.prog w = .ok (.bool (!(Op.bytesLess a b || decide (a = b)))) w := fun w => by simp [binOp, Op.stringOp, bdec]
  have hl : Op.bytesLess (⟨a.toArray⟩ : ByteArray).toList (⟨b.toArray⟩ : ByteArray).toList = Op.bytesLess a b := by simp
  go_enter Go.Proofs.Try.func116, Go.Proofs.Try.ntmps116
  go_wp2_with (go_at_call 130; refine (h86 _ _).mono ?_; rintro e w' ⟨rfl, rfl⟩)
  all_goals go_ret
  all_goals refine ⟨?_, rfl⟩
  all_goals simp_all [cmpK, lt]
/-- An entry's cells. -/
def enc (e : En) : List Value := [.string ⟨e.key.toArray⟩, .string ⟨e.val.toArray⟩, .bool e.del, .int .i64 e.seq]
theorem byKey_walk (x y : En) (W : World) : Calls Go.Proofs.Try.prog 94 #[.agg (enc x).toArray, .agg (enc y).toArray] W fun e w' => e = .returned (.int .i64 (cmpK x.key y.key)) ∧ ∃ q os', w' = grow (W.drewN q) os' := by
  have hcon := fun W' => compare_walk x.key y.key W'
  simp only [enc]
  generalize cmpK x.key y.key = r at hcon ⊢
  go_enter Go.Proofs.Try.func94, Go.Proofs.Try.ntmps94
  go_wp2_with (go_at_call 116; refine (hcon _).mono ?_; rintro e w' ⟨rfl, rfl⟩)
  go_ret
  exact ⟨rfl, 0, _, by rw [alloc_eq_grow, alloc_eq_grow, grow_grow]; rfl⟩
theorem ltOf_key (x y : En) : ltOf (fun x y : En => cmpK x.key y.key) x y = lt x.key y.key := by
  unfold ltOf
  cases h : lt x.key y.key with
  | true => simp [cmpK, h]
  | false => have := (cmpK_neg x.key y.key).2 h; simp; omega
theorem swo_key : SWO (ltOf fun x y : En => cmpK x.key y.key) where
  irrefl x := by rw [ltOf_key, lt_irrefl]
  trans x y z h1 h2 := by rw [ltOf_key] at *; exact lt_trans' h1 h2
  ntrans x y z h1 h2 := by
    rw [ltOf_key] at *
    cases h : lt x.key z.key with
    | false => rfl
    | true => rw [lt_of_ge h1 h] at h2; cases h2
theorem flat_enc (l : List En) : flat (l.map En.av) = (l.flatMap enc).map .val := by
  induction l with
  | nil => rfl
  | cons e l ih =>
    simp only [List.map_cons, List.flatMap_cons, List.map_append, ← ih]
    rfl
theorem flatK_enc (d : Array En) : (flatK enc 4 d).toList = d.toList.flatMap enc := by
  obtain ⟨l, rfl⟩ : ∃ l, d = List.toArray l := ⟨d.toList, by simp⟩
  have hf : ∀ l : List En, (l.flatMap enc).length = l.length * 4 := fun l => by
    induction l with
    | nil => rfl
    | cons e l ih => simp only [List.flatMap_cons, List.length_append, ih, List.length_cons, enc, List.length_nil]; omega
  have hg : ∀ (l : List En) (t : Nat), t < l.length * 4 → (l.flatMap enc)[t]? = some ((enc (l.getD (t / 4) default))[t % 4]!) := by
    intro l
    induction l with
    | nil => intro t ht; simp at ht
    | cons e l ih =>
      intro t ht
      rcases Nat.lt_or_ge t 4 with h4 | h4
      · rw [List.flatMap_cons, List.getElem?_append_left (by simpa [enc] using h4)]
        have e1 : t / 4 = 0 := by omega
        have e2 : t % 4 = t := by omega
        rw [e1, e2, List.getD_cons_zero, List.getElem!_eq_getElem?_getD, List.getElem?_eq_getElem (by simpa [enc] using h4)]
        rfl
      · rw [List.flatMap_cons, List.getElem?_append_right (by simpa [enc] using h4)]
        have e3 : (enc e).length = 4 := rfl
        obtain ⟨u, rfl⟩ : ∃ u, t = u + 4 := ⟨t - 4, by omega⟩
        have e1 : (u + 4) / 4 = u / 4 + 1 := by omega
        have e2 : (u + 4) % 4 = u % 4 := by omega
        rw [e3, Nat.add_sub_cancel, e1, e2, List.getD_cons_succ]
        exact ih u (by simp at ht; omega)
  apply List.ext_getElem?
  intro t
  rcases Nat.lt_or_ge t (l.length * 4) with h | h
  · rw [show (List.toArray l).toList = l from rfl, hg l t h]
    have hs : t < (flatK enc 4 l.toArray).size := by simpa using h
    have := get_flatK enc 4 l.toArray t (by simpa using h)
    rw [getElem!_pos _ t hs] at this
    rw [Array.getElem?_toList, Array.getElem?_eq_getElem hs, this]
    simp [List.getD_eq_getElem?_getD, Array.getElem!_eq_getD, Array.getD]
    by_cases h4 : t / 4 < l.length <;> simp [h4]
  · rw [List.getElem?_eq_none (by simpa using h), List.getElem?_eq_none (by rw [hf]; exact h)]
theorem flatMap_enc_length : ∀ l : List En, (l.flatMap enc).length = l.length * 4
  | [] => rfl
  | e :: l => by simp only [List.flatMap_cons, List.length_append, flatMap_enc_length l, List.length_cons, enc, List.length_nil]; omega
theorem enc_one (l : List En) : ∀ v ∈ l.flatMap enc, v.oneCell' = true := by
  intro v hv
  obtain ⟨e, _, h⟩ := List.mem_flatMap.1 hv
  simp only [enc, List.mem_cons, List.not_mem_nil, or_false] at h
  rcases h with rfl | rfl | rfl | rfl <;> rfl
theorem grown_grow (w : World) (os : Array Obj) : w.grownBy (grow w os) none := ⟨rfl, rfl, rfl, by simp, fun k hk _ => heap_grow_old w os hk⟩
theorem body_sort : HasBody Go.Proofs.Try.prog 99 := ⟨Go.Proofs.Try.f99, _, by kernel_rfl, rfl, by kernel_rfl⟩
theorem sort_ok (l : List En) (v : Value) (σ1 σ2 : Store) (hlen : l.length < 4611686018427387904) : ACalls Go.Proofs.Try.prog 99 [.own v l.length, .val (.func (.func 94) #[] #[])] (σ1 ++ .row v 54 4 (l.map En.av) 0 :: σ2)
    fun x σ' => ∃ l' : List En, (l'.Perm l ∧ l'.Pairwise fun a b => lt b.key a.key = false) ∧ x = .ret (.tuple []) ∧ σ' = σ1 ++ .row v 54 4 (l'.map En.av) 0 :: σ2 := by
  refine ⟨body_sort, fun R w vs hv hs => ?_⟩
  obtain ⟨hvl, hvr⟩ := hv
  match vs, hvl with
  | [x, y], _ =>
    have hx := (hvr 0 _ x rfl rfl).own_inv.1
    have hy := (hvr 1 _ y rfl rfl).val_inv
    subst hx; subst hy
    obtain ⟨h1, h2, ⟨xs, hown, hxs, hone⟩, hmx, hR⟩ := hs.ents (.row x 54 4 (l.map En.av) 0) (by simp)
    have hxs' : xs = l.flatMap enc := VRs.toVals (by rw [← flat_enc]; exact hxs)
    subst hxs'
    obtain ⟨hlx, hown⟩ := hown
    rw [List.length_map] at hlx hown
    rcases hown with ⟨rfl, h0⟩ | ⟨g, cap, cur, rfl, hg0, hg, hnc, hcap, hsz, hcur⟩
    · have hl0 : l = [] := List.length_eq_zero_iff.1 h0
      subst hl0
      refine (AnyF.slices_SortFunc_none Go.Proofs.Try.sortEn none 0 _ w).mono ?_
      rintro e w' ⟨rfl, rfl⟩
      exact ⟨.ret (.tuple []), R, _, VR.tuple' (VRs.nil R), ⟨[], ⟨List.Perm.refl _, List.Pairwise.nil⟩, rfl, rfl⟩, hs, Ext.refl _ _ _⟩
    · have hgl : g < w.heap.size := by
        rcases Nat.lt_or_ge g w.heap.size with h | h
        · exact h
        · rw [Array.getElem?_eq_none h] at hg; cases hg
      have eg : ∀ args w, (callFunc 94 args).run Go.Proofs.Try.prog w = .ok (.enter 94 args) w := enters_of Go.Proofs.Try.func94 (by kernel_rfl) rfl
      have hfk := flatK_enc l.toArray
      have hH : HoldsK enc 4 w g 0 l.toArray := by
        intro j hj
        have hj' : j < l.length * 4 := by simpa using hj
        have hc : cur.toList[j]? = (l.flatMap enc)[j]? := by
          rw [← hcur, List.getElem?_take, if_pos hj']
        have hc2 : cur[j]? = some ((flatK enc 4 l.toArray)[j]!) := by
          rw [← Array.getElem?_toList, hc, ← hfk, Array.getElem?_toList, getElem!_pos _ j hj, Array.getElem?_eq_getElem hj]
        exact ⟨by simp only [World.cell?, hg, Nat.zero_add]; simpa using hc2, by simp [World.frozen?, hg]⟩
      have hcon := AnyQ.slices_SortFunc Go.Proofs.Try.sortEn 4 Go.Proofs.Try.isAgg54 Go.Proofs.Try.sizeOf54 enc (fun _ => rfl) (fun e u hu => enc_one [e] u (by simpa using hu)) (fun x y => cmpK x.key y.key) swo_key 94 #[] g 0 cap l.toArray w eg (fun _ _ _ _ x y => byKey_walk x y _) hH hgl (by simpa using hlen)
      refine hcon.mono ?_
      rintro e w' ⟨rfl, d', n, os, hp, hso, rfl⟩
      obtain ⟨hds, _, hpm⟩ := hp
      have hds : d'.size = l.length := by simpa using hds
      have hperm : d'.toList.Perm l := by
        have h3 := hpm
        simp only [List.size_toArray, ← hds, Array.extract_size] at h3
        rw [hds, show l.length = l.toArray.size from rfl, Array.extract_size] at h3
        exact h3
      have hpw : d'.toList.Pairwise fun a b => lt b.key a.key = false := by
        rw [List.pairwise_iff_getElem]
        intro i j hi hj hij
        have := hso i j (Nat.zero_le _) hij (by simpa [← hds] using hj)
        rw [ltOf_key, getElem!_pos d' j (by simpa using hj), getElem!_pos d' i (by simpa using hi)] at this
        simpa using this
      obtain ⟨cur', hcur'⟩ : ∃ c, c = putCells id 0 (flatK enc 4 d') cur := ⟨_, rfl⟩
      have hmod : ∀ k, (putRowK enc 4 (Go.Sort.ahead w n) g 0 d').heap[k]? = if k = g then some (.cells cur' 54 (0, 0)) else w.heap[k]? := by
        intro k
        show (w.heap.modify g _)[k]? = _
        rw [Array.getElem?_modify]
        by_cases hk : k = g
        · subst hk
          rw [if_pos rfl, if_pos rfl, hg, hcur']
          rfl
        · rw [if_neg (fun h => hk h.symm), if_neg hk]
      have htake : cur'.toList.take (l.length * 4) = d'.toList.flatMap enc := by
        rw [← flatK_enc, hcur']
        apply List.ext_getElem?
        intro t
        have hfs : (flatK enc 4 d').size = l.length * 4 := by simp [hds]
        have hcs : l.length * 4 ≤ cur.size := by rw [hsz]; exact Nat.mul_le_mul_right 4 hnc
        rcases Nat.lt_or_ge t (l.length * 4) with h | h
        · rw [List.getElem?_take, if_pos h, Array.getElem?_toList, Array.getElem?_toList]
          unfold putCells
          rw [Array.getElem?_mapIdx, Array.getElem?_eq_getElem (by omega : t < cur.size), Array.getElem?_eq_getElem (by omega : t < (flatK enc 4 d').size)]
          simp only [Option.map_some, Nat.zero_le, true_and, Nat.zero_add, Nat.sub_zero, id_eq]
          rw [if_pos (by omega), getElem!_pos _ t (by omega)]
        · rw [List.getElem?_eq_none (by simp; omega), List.getElem?_eq_none (by simp; omega)]
      have hcs' : cur'.size = cap * 4 := by rw [hcur']; simp [putCells, hsz]
      have hE : EntOk R (putRowK enc 4 (Go.Sort.ahead w n) g 0 d') (.row (.slice (some ⟨g, 0, none⟩) l.length cap) 54 4 (d'.toList.map En.av) 0) := by
        refine ⟨h1, fun e he => ?_, ⟨d'.toList.flatMap enc, ⟨?_, .inr ⟨g, cap, cur', ?_, hg0, ?_, ?_, hcap, hcs', ?_⟩⟩, ?_, enc_one _⟩, ?_, fun a x ha hb => ?_⟩
        · obtain ⟨e0, _, rfl⟩ := List.mem_map.1 he
          rfl
        · rw [flatMap_enc_length]; simp
        · simp [hds]
        · rw [hmod, if_pos rfl]
        · simpa [hds] using hnc
        · simpa [hds] using htake
        · rw [flat_enc]; exact VRs.ofVals R _
        · simpa [hds] using hmx
        · have := hR a x ha hb
          omega
      have hst := st_change (b := g) (e' := .row (.slice (some ⟨g, 0, none⟩) l.length cap) 54 4 (d'.toList.map En.av) 0) hs rfl rfl (w' := putRowK enc 4 (Go.Sort.ahead w n) g 0 d') rfl rfl rfl (by show (w.heap.modify g _).size = _; simp) (fun k hk => by rw [hmod, if_neg hk]) (fun a x ha hb => by
        have := hR a x ha (by simp [Value.ownBlock, hb])
        omega) hE
      obtain ⟨q1, q2⟩ := hst
      obtain ⟨q3, q4⟩ := st_roNew q1 (grown_grow _ os)
      exact ⟨.ret (.tuple []), _, _, VR.tuple' (VRs.nil _), ⟨d'.toList, ⟨hperm, hpw⟩, rfl, rfl⟩, q3, q2.trans q4⟩
instance sortQ {l : List En} {v : Value} {n : Nat} {σ rest : Store} {put : Ent → Store} [hr : RowAt v σ 54 4 (l.map En.av) 0 put rest] :
    EQ Go.Proofs.Try.prog 99 [.own v n, .val (.func (.func 94) #[] #[])] σ (n = l.length ∧ l.length < 4611686018427387904) (List En) (fun l' => l'.Perm l ∧ l'.Pairwise fun a b => lt b.key a.key = false) (fun _ => .tuple []) (fun l' => put (.row v 54 4 (l'.map En.av) 0)) := ⟨fun ⟨h1, h2⟩ => by
  obtain ⟨σ1, σ2, e, e2, _⟩ := hr.at_
  subst h1; subst e
  simp only [e2]
  exact sort_ok l v σ1 σ2 h2⟩
end Go.Ab

/- The code's fold. -/
set_option linter.unusedVariables false
set_option linter.unusedSimpArgs false
namespace Go.Ab
def entry_Fold.mark : Mark := ⟨fun t => false, fun t => false, fun t => false, fun t => Nat.beq t 17, fun t => Nat.beq t 40⟩
def entry_Fold.ann : Ann := ⟨fun n => bif Nat.beq n 3 then [3, 12, 13, 14] else bif Nat.beq n 11 then [8, 43] else [], fun n => none, fun n => none⟩
/-- 'marlstone/entry.Fold' -/
def entry_Fold.sh (a0 : AV) (σ : Store) (Q : AEnd → Store → Prop) : Prop :=
  aHook (eMakeMap σ) fun t11 σ =>
  Do (aBuiltin Go.Proofs.Try.prog .len #[22] [a0]) fun t13 =>
  aLoop (fun go vs σ_1 =>
    At vs 0 fun s3 => At vs 1 fun s12 => At vs 2 fun s13 => At vs 3 fun s14 => Do (aBin Go.Proofs.Try.prog .lss 3 s14 s13) fun t15 =>
    aCond t15
      (Do (aIndexAddr .slice 4 s12 s14) fun t16 =>
    Do (loadF true 4 t16) fun t17 =>
    aNewVar 54 [.val (.string ⟨#[]⟩), .val (.string ⟨#[]⟩), .val (.bool false), .val (.int .i64 0)] σ_1 fun t5 σ_2 =>
    storeA 4 t5 t17 σ_2 fun u σ_3 =>
    Do (aFieldAddr 0 1 t5) fun t20 =>
    Do (loadA false 1 t20 σ_3) fun t21 =>
    Do (lookA Go.Proofs.Try.prog 139 true s3 t21 σ_3) fun t22 =>
    Do (aExt t22 0) fun t23 =>
    Do (aExt t22 1) fun t24 =>
    aNewVar 54 [.val (.string ⟨#[]⟩), .val (.string ⟨#[]⟩), .val (.bool false), .val (.int .i64 0)] σ_3 fun t6 σ_4 =>
    storeA 4 t6 t23 σ_4 fun u_1 σ_5 =>
    Do (aUn Go.Proofs.Try.prog .not t24) fun t26 =>
    Do (aGuard t26 false (aFieldAddr 3 1 t5)) fun t28 =>
    Do (aGuard t26 false (loadA false 1 t28 σ_5)) fun t29 =>
    Do (aGuard t26 false (aFieldAddr 3 1 t6)) fun t30 =>
    Do (aGuard t26 false (loadA false 1 t30 σ_5)) fun t31 =>
    Do (aGuard t26 false (aBin Go.Proofs.Try.prog .geq 3 t29 t31)) fun t32 =>
    Do (aPick t26 (.val (.bool true)) t32) fun t33 =>
    aCond t33
      (Do (aFieldAddr 0 1 t5) fun t35 =>
      Do (loadA false 1 t35 σ_5) fun t36 =>
      Do (loadA true 4 t5 σ_5) fun t37 =>
      aHook (eMapUpd Go.Proofs.Try.prog 139 s3 t36 t37 σ_5) fun u_2 σ_6 =>
      Do (aBin Go.Proofs.Try.prog .add 3 s14 (.val (.int .i64 1))) fun t38 =>
    go [s3, s12, s13, t38] σ_6)
      (Do (aBin Go.Proofs.Try.prog .add 3 s14 (.val (.int .i64 1))) fun t38_1 =>
    go [s3, s12, s13, t38_1] σ_5))
      (Do (lenMA Go.Proofs.Try.prog 139 s3 σ_1) fun t40 =>
  aMake 54 [(.string ⟨#[]⟩), (.string ⟨#[]⟩), (.bool false), (.int .i64 0)] 4 48 (.val (.int .i64 0)) t40 σ_1 (subK fun t41 σ_7 =>
  aHook (eRange Go.Proofs.Try.prog 139 s3 σ_7) fun t43 σ_8 =>
  aLoop (fun go_1 vs_1 σ_9 =>
    At vs_1 0 fun s8 => At vs_1 1 fun s43 => aHook (eNext s43 σ_9) fun t44 σ_10 =>
    Do (aExt t44 0) fun t45 =>
    aCond t45
      (Do (entryA s43 σ_10) fun t46 =>
    Do (aExt t46 1) fun t47 =>
    aNewVar 54 [.val (.string ⟨#[]⟩), .val (.string ⟨#[]⟩), .val (.bool false), .val (.int .i64 0)] σ_10 fun t10 σ_11 =>
    storeA 4 t10 t47 σ_11 fun u_3 σ_12 =>
    Do (loadA true 4 t10 σ_12) fun t49 =>
    Do (aSlLit (mkE [.val (.string ⟨#[]⟩), .val (.string ⟨#[]⟩), .val (.bool false), .val (.int .i64 0)]) 4 1 [(0, t49)]) fun t50 =>
    aAppend 54 4 48 s8 t50 σ_12 (subK fun t51 σ_13 =>
    go_1 [t51, s43] σ_13))
      (aCall Go.Proofs.Try.prog 99 [s8, (.val (.func (.func 94) #[] #[]))] σ_10 (fun t53 σ_14 =>
  Q (.ret s8) σ_14) (fun e σ_15 => Q (.pan e) σ_15)))
    [t41, t43] σ_8)))
    [t11, a0, t13, (.val (.int .i64 0))] σ
theorem entry_Fold.eq (a0 : AV) (σ : Store) (Q : AEnd → Store → Prop) : vc (semOf Go.Proofs.Try.prog entry_Fold.mark) Go.Proofs.Try.f60.ntmps entry_Fold.ann (bodyOf Go.Proofs.Try.f60) (endK [.tmp 2] Q) (argFr [a0]) σ = entry_Fold.sh a0 σ Q := by kernel_rfl
theorem entry_Fold.go {a0 : AV} {σ : Store} {Q : AEnd → Store → Prop} (h : entry_Fold.sh a0 σ Q) : ACalls Go.Proofs.Try.prog 60 [a0] σ Q :=
  acalls_of_eq [.tmp 2] Go.Proofs.Try.func60 (by kernel_rfl) (by kernel_rfl) (by kernel_rfl) (by kernel_rfl) (entry_Fold.eq a0 σ Q) h
theorem Fold_ok (l : List En) (m : SM) (hl : l.length ≤ 1000000000) : ACalls Go.Proofs.Try.prog 60 [.lst 4 (l.map En.av) m] [] fun x σ' => ∃ v, x = .ret (.own v (foldE l).length) ∧ σ' = [.row v 54 4 ((foldE l).map En.av) 0] := by
  refine ACalls.fin (entry_Fold.go ?_)
  unfold entry_Fold.sh
  repeat' (first | with_reducible apply Stp.go | with_reducible refine imp fun _ => ?_ | (with_reducible refine hyp ?_ ?_; first | assumption | exact leftT_mem (by assumption)) | (with_reducible refine need ?_ ?_; first | trivial | omega | exact ⟨by assumption, by omega⟩ | (simp only [List.length_append, List.length_cons, List.length_nil, List.length_map, List.length_take, List.length_drop, List.length_replicate, List.length_set]; omega)) | (with_reducible refine fact ?_ ?_; first | trivial | exact ⟨rfl, rfl⟩ | kernel_rfl) | with_reducible refine choT (by assumption) ?_ | with_reducible refine choF (by assumption) ?_ | with_reducible refine choF' (by assumption) ?_ | (with_reducible refine altT ?_ ?_; first | omega | (simp only [List.length_append, List.length_cons, List.length_nil, List.length_map, List.length_take, List.length_drop, List.length_replicate, List.length_set]; omega)) | with_reducible refine altF ?_ | with_reducible refine all fun _ => ?_ | with_reducible refine both ?_ ?_ | (with_reducible refine choT ?_ ?_; omega) | (with_reducible refine choF ?_ ?_; omega) | with_reducible refine cho (fun _ => ?_) (fun _ => ?_))
  rename_i mb
  refine loopI (β := Nat × List (Nat × List UInt8 × En) × Nat) (fun x => x.1 ≤ l.length ∧ Tbl x.2.1 x.2.2 (foldE (l.take x.1)) ∧ x.2.1.length ≤ x.1) (fun x => [.val (.map (some mb)), .lst 4 (l.map En.av) m, I .i64 (l.length : Nat), I .i64 (x.1 : Nat)])
    (fun x => [.map mb (mkM keyS En.av x.2.1) x.2.2]) (fun x => l.length - x.1) (0, [], 0) ⟨Nat.zero_le _, Tbl.nil, Nat.le_refl _⟩ (Sub.refl _ _) ?_
  rintro ⟨i, L, c⟩ ⟨hi, ht, hL⟩
  dsimp only at hi ht hL ⊢
  have hF := foldE_rises (l.take i)
  by_cases hlt : i < l.length
  · have hs := foldE_take_succ hlt
    have hset := ht.set hF (e := l.getD i default)
    have hkeep := fun x => ht.keep hF (e := l.getD i default) (x := x)
    have hsl := setT_length (l.getD i default).key (l.getD i default) c L
    rw [← hs] at hset hkeep
    repeat' (first | with_reducible apply Stp.go | with_reducible refine imp fun _ => ?_ | (with_reducible refine hyp ?_ ?_; first | assumption | exact leftT_mem (by assumption)) | (with_reducible refine need ?_ ?_; first | trivial | omega | exact ⟨by assumption, by omega⟩ | (simp only [List.length_append, List.length_cons, List.length_nil, List.length_map, List.length_take, List.length_drop, List.length_replicate, List.length_set]; omega)) | (with_reducible refine fact ?_ ?_; first | trivial | exact ⟨rfl, rfl⟩ | kernel_rfl) | with_reducible refine choT (by assumption) ?_ | with_reducible refine choF (by assumption) ?_ | with_reducible refine choF' (by assumption) ?_ | (with_reducible refine altT ?_ ?_; first | omega | (simp only [List.length_append, List.length_cons, List.length_nil, List.length_map, List.length_take, List.length_drop, List.length_replicate, List.length_set]; omega)) | with_reducible refine altF ?_ | with_reducible refine all fun _ => ?_ | with_reducible refine both ?_ ?_ | (with_reducible refine choT ?_ ?_; omega) | (with_reducible refine choF ?_ ?_; omega) | with_reducible refine cho (fun _ => ?_) (fun _ => ?_))
    · rename_i h1 h2
      refine again (i + 1, setT (l.getD i default).key (l.getD i default) c L, bif hasT (l.getD i default).key L then c else c + 1) (by dsimp only; omega) ⟨by dsimp only; omega, hset fun x hx => by rw [hx] at h2; exact h2, by dsimp only; omega⟩ ?_
      exact subS _
    · rename_i h1 h2
      obtain ⟨x, hx⟩ := Option.isSome_iff_exists.1 h1
      rw [hx] at h2
      refine again (i + 1, L, c) (by dsimp only; omega) ⟨by dsimp only; omega, hkeep x hx h2, by dsimp only; omega⟩ ?_
      exact subS _
    · rename_i h1
      refine again (i + 1, setT (l.getD i default).key (l.getD i default) c L, bif hasT (l.getD i default).key L then c else c + 1) (by dsimp only; omega) ⟨by dsimp only; omega, hset fun x hx => by rw [hx] at h1; exact absurd rfl h1, by dsimp only; omega⟩ ?_
      exact subS _
  · have e : l.take i = l := List.take_of_length_le (by omega)
    rw [e] at ht hF
    repeat' (first | with_reducible apply Stp.go | with_reducible refine imp fun _ => ?_ | (with_reducible refine hyp ?_ ?_; first | assumption | exact leftT_mem (by assumption)) | (with_reducible refine need ?_ ?_; first | trivial | omega | exact ⟨by assumption, by omega⟩ | (simp only [List.length_append, List.length_cons, List.length_nil, List.length_map, List.length_take, List.length_drop, List.length_replicate, List.length_set]; omega)) | (with_reducible refine fact ?_ ?_; first | trivial | exact ⟨rfl, rfl⟩ | kernel_rfl) | with_reducible refine choT (by assumption) ?_ | with_reducible refine choF (by assumption) ?_ | with_reducible refine choF' (by assumption) ?_ | (with_reducible refine altT ?_ ?_; first | omega | (simp only [List.length_append, List.length_cons, List.length_nil, List.length_map, List.length_take, List.length_drop, List.length_replicate, List.length_set]; omega)) | with_reducible refine altF ?_ | with_reducible refine all fun _ => ?_ | with_reducible refine both ?_ ?_ | (with_reducible refine choT ?_ ?_; omega) | (with_reducible refine choF ?_ ?_; omega) | with_reducible refine cho (fun _ => ?_) (fun _ => ?_))
    rename_i v0 it
    refine loopI (β := Value × List En × List Nat) (fun x => (x.2.1 ++ (leftT L x.2.2).map (·.2.2)).Perm (L.map (·.2.2))) (fun x => [.own x.1 x.2.1.length, ptrAt it 0])
      (fun x => [.iter it mb c x.2.2 c, .row x.1 54 4 (x.2.1.map En.av) 0, .map mb (mkM keyS En.av L) c]) (fun x => (leftT L x.2.2).length) (v0, [], []) ?_ (Sub.refl _ _) ?_
    · dsimp only
      rw [left_nil]
      exact List.Perm.refl _
    · rintro ⟨v, o, seen⟩ hp
      dsimp only at hp ⊢
      have hol : o.length ≤ L.length := by
        have := hp.length_eq
        simp only [List.length_append, List.length_map] at this
        omega
      repeat' (first | with_reducible apply Stp.go | with_reducible refine imp fun _ => ?_ | (with_reducible refine hyp ?_ ?_; first | assumption | exact leftT_mem (by assumption)) | (with_reducible refine need ?_ ?_; first | trivial | omega | exact ⟨by assumption, by omega⟩ | (simp only [List.length_append, List.length_cons, List.length_nil, List.length_map, List.length_take, List.length_drop, List.length_replicate, List.length_set]; omega)) | (with_reducible refine fact ?_ ?_; first | trivial | exact ⟨rfl, rfl⟩ | kernel_rfl) | with_reducible refine choT (by assumption) ?_ | with_reducible refine choF (by assumption) ?_ | with_reducible refine choF' (by assumption) ?_ | (with_reducible refine altT ?_ ?_; first | omega | (simp only [List.length_append, List.length_cons, List.length_nil, List.length_map, List.length_take, List.length_drop, List.length_replicate, List.length_set]; omega)) | with_reducible refine altF ?_ | with_reducible refine all fun _ => ?_ | with_reducible refine both ?_ ?_ | (with_reducible refine choT ?_ ?_; omega) | (with_reducible refine choF ?_ ?_; omega) | with_reducible refine cho (fun _ => ?_) (fun _ => ?_))
      · rename_i h0 o' hq
        rw [h0, List.map_nil, List.append_nil] at hp
        have e1 : o' = foldE l := ht.sorted hF (hq.1.trans hp) hq.2
        have e2 : o.length = (foldE l).length := by rw [← e1]; exact hq.1.length_eq.symm
        subst e1
        exact ⟨_, _, _, rfl, subS _, v, by rw [e2], rfl⟩
      · rename_i x hx t w
        have hlt := left_take ht.nb hx
        refine again (w, o ++ [x.2.2], seen ++ [x.1]) ?_ ?_ ?_
        · have := hlt.length_eq
          simp only [List.length_cons] at this
          dsimp only
          omega
        · dsimp only
          rw [List.append_assoc]
          exact ((((hlt.map (·.2.2)).symm).append_left o)).trans hp
        · exact subS _
theorem Fold_pure (l : List En) (m : SM) (hl : l.length ≤ 1000000000) : aPure Go.Proofs.Try.prog 60 [.lst 4 (l.map En.av) m] (.lst 4 ((foldE l).map En.av) .ro) :=
  ACalls.fin ((Fold_ok l m hl).mono fun x τ ⟨v, e1, e2⟩ => ⟨_, _, _, e1, by rw [e2]; exact retOwn (Sub.refl _ _), rfl, rfl⟩)
instance {a : AV} {l : List En} {m : SM} [h : IsL a En.av 4 l m] : PC Go.Proofs.Try.prog 60 [a] (l.length ≤ 1000000000) (.lst 4 ((foldE l).map En.av) .ro) := ⟨fun hl => ⟨[.lst 4 (l.map En.av) m], ⟨h.sub, trivial⟩, Fold_pure l m hl⟩⟩
end Go.Ab

/- DeleteFunc of an own row; what writes come to. -/
set_option linter.unusedVariables false
set_option linter.unusedSimpArgs false
namespace Go.Ab
def slices_DeleteFunc.mark : Mark := ⟨fun t => false, fun t => false, fun t => false, fun t => false, fun t => Nat.beq t 10 || Nat.beq t 28⟩
def slices_DeleteFunc.ann : Ann := ⟨fun n => bif Nat.beq n 5 then [0, 1, 5, 6] else [], fun n => none, fun n => none⟩
/-- 'slices.DeleteFunc[[]marlstone/api.Entry,marlstone/api.Entry]' -/
def slices_DeleteFunc.sh (a0 a1 : AV) (σ : Store) (Q : AEnd → Store → Prop) : Prop :=
  Do (lookC Go.Proofs.Try.prog 96 [a0, a1] σ) fun t10 =>
  Do (aBin Go.Proofs.Try.prog .eql 3 t10 (.val (.int .i64 (-1)))) fun t12 =>
  aCond t12
    (Q (.ret a0) σ)
    (Do (aBin Go.Proofs.Try.prog .add 3 t10 (.val (.int .i64 1))) fun t15 =>
  aLoop (fun go vs σ =>
    At vs 0 fun s0 => At vs 1 fun s1 => At vs 2 fun s5 => At vs 3 fun s6 => Do (aBuiltin Go.Proofs.Try.prog .len #[22] [s0]) fun t18 =>
    Do (aBin Go.Proofs.Try.prog .lss 3 s6 t18) fun t19 =>
    aCond t19
      (Do (aIndexAddr .slice 4 s0 s6) fun t24 =>
    Do (loadA true 4 t24 σ) fun t25 =>
    aNewVar 54 [.val (.string ⟨#[]⟩), .val (.string ⟨#[]⟩), .val (.bool false), .val (.int .i64 0)] σ fun t7 σ_1 =>
    storeA 4 t7 t25 σ_1 fun u σ_2 =>
    Do (loadA true 4 t7 σ_2) fun t27 =>
    Do (lookV Go.Proofs.Try.prog s1 [t27] σ_2) fun t28 =>
    Do (aUn Go.Proofs.Try.prog .not t28) fun t29 =>
    aCond t29
      (Do (loadA true 4 t7 σ_2) fun t32 =>
      Do (aIndexAddr .slice 4 s0 s5) fun t33 =>
      storeA 4 t33 t32 σ_2 fun u_1 σ_3 =>
      Do (aBin Go.Proofs.Try.prog .add 3 s5 (.val (.int .i64 1))) fun t35 =>
      Do (aBin Go.Proofs.Try.prog .add 3 s6 (.val (.int .i64 1))) fun t21 =>
    go [s0, s1, t35, t21] σ_3)
      (Do (aBin Go.Proofs.Try.prog .add 3 s6 (.val (.int .i64 1))) fun t21_1 =>
    go [s0, s1, s5, t21_1] σ_2))
      (Do (aSlice .slice 4 s0 (some s5) none none) fun t38 =>
  aHook (eClear Go.Proofs.Try.prog 22 t38 σ) fun u_2 σ_4 =>
  Do (aSlice .slice 4 s0 none (some s5) none) fun t41 =>
  Q (.ret t41) σ_4))
    [a0, a1, t10, t15] σ)
theorem slices_DeleteFunc.eq (a0 a1 : AV) (σ : Store) (Q : AEnd → Store → Prop) : vc (semOf Go.Proofs.Try.prog slices_DeleteFunc.mark) Go.Proofs.Try.f55.ntmps slices_DeleteFunc.ann (bodyOf Go.Proofs.Try.f55) (endK [.tmp 4] Q) (argFr [a0, a1]) σ = slices_DeleteFunc.sh a0 a1 σ Q := by kernel_rfl
theorem slices_DeleteFunc.go {a0 a1 : AV} {σ : Store} {Q : AEnd → Store → Prop} (h : slices_DeleteFunc.sh a0 a1 σ Q) : ACalls Go.Proofs.Try.prog 55 [a0, a1] σ Q :=
  acalls_of_eq [.tmp 4] Go.Proofs.Try.func55 (by kernel_rfl) (by kernel_rfl) (by kernel_rfl) (by kernel_rfl) (slices_DeleteFunc.eq a0 a1 σ Q) h
instance : RowT Go.Proofs.Try.prog 22 54 [.string ⟨#[]⟩, .string ⟨#[]⟩, .bool false, .int .i64 0] 4 48 := ⟨by kernel_rfl⟩
theorem idx_cases (p : En → Bool) : ∀ l : List En, (idx p l = -1 ∧ l.filter (fun e => !p e) = l) ∨ ∃ i : Nat, idx p l = i ∧ i < l.length ∧ (l.take (i + 1)).filter (fun e => !p e) = l.take i
  | [] => .inl ⟨rfl, rfl⟩
  | a :: l => by
    by_cases ha : p a = true
    · refine .inr ⟨0, by simp [idx, ha], by simp, by simp [ha]⟩
    · rcases idx_cases p l with ⟨h1, h2⟩ | ⟨i, h1, h2, h3⟩
      · refine .inl ⟨by simp [idx, ha, h1], ?_⟩
        rw [List.filter_cons_of_pos (by simpa using ha), h2]
      · refine .inr ⟨i + 1, ?_, by simpa using h2, ?_⟩
        · simp only [idx, ha, Bool.false_eq_true, if_false, h1]
          rw [if_neg (by omega)]
          rfl
        · rw [List.take_succ_cons, List.filter_cons_of_pos (by simpa using ha), h3, List.take_succ_cons]
theorem Sub.own_sub {σ : Store} {v : Value} {n sz : Nat} {us us' : List AV} (h : Sub σ us σ us') : Sub σ (.own v n :: us) σ (.sub v sz 0 n :: us') := by
  refine Sub.trans (Sub.cons_same _ h) (Sub.vals ⟨fun R x hx => ?_, SubVs.refl _⟩)
  obtain ⟨rfl, hr⟩ := hx.own_inv
  refine .sub ?_
  rcases hr with ⟨rfl, rfl⟩ | ⟨g, cap, rfl, hle⟩
  · exact .inl ⟨rfl, rfl, rfl, rfl⟩
  · exact .inr ⟨g, n, cap, ⟨g, 0, none⟩, rfl, by omega, fun _ => by simp, rfl⟩
instance (priority := 40) predLook {g : AV} {p : En → Bool} [hg : Pred Go.Proofs.Try.prog g p] {e : En} {σ : Store} {K : AV → Prop} : Stp (Do (lookV Go.Proofs.Try.prog g [e.av] σ) K) (K (B (p e))) := ⟨fun hK => by
  obtain ⟨f, a, b, args1, h1, h2, h3⟩ := hg.h e
  refine ⟨_, ?_, hK⟩
  unfold lookV
  rw [h1]
  exact ⟨σ, args1, Sub.vals h2, h3, (inferInstance : Ground (B (p e))).g⟩⟩
theorem Delete_ok (g : AV) (p : En → Bool) (hg : Pred Go.Proofs.Try.prog g p) (l : List En) (v : Value) (hl : l.length ≤ 1000000000) : ACalls Go.Proofs.Try.prog 55 [.own v l.length, g] [.row v 54 4 (l.map En.av) 0]
    fun x σ' => ∃ l' : List En, (l'.length = l.length ∧ l'.take (l.filter fun e => !p e).length = l.filter fun e => !p e) ∧ x = .ret (.sub v 4 0 (l.filter fun e => !p e).length) ∧ σ' = [.row v 54 4 (l'.map En.av) 0] := by
  refine ACalls.fin (slices_DeleteFunc.go ?_)
  unfold slices_DeleteFunc.sh
  rcases idx_cases p l with ⟨h, hf⟩ | ⟨i0, h, hi0, hf⟩
  · repeat' (first | with_reducible apply Stp.go | with_reducible refine imp fun _ => ?_ | (with_reducible refine hyp ?_ ?_; first | assumption | exact leftT_mem (by assumption)) | (with_reducible refine need ?_ ?_; first | trivial | omega | exact ⟨by assumption, by omega⟩ | (simp only [List.length_append, List.length_cons, List.length_nil, List.length_map, List.length_take, List.length_drop, List.length_replicate, List.length_set]; omega)) | (with_reducible refine fact ?_ ?_; first | trivial | exact ⟨rfl, rfl⟩ | kernel_rfl) | with_reducible refine choT (by assumption) ?_ | with_reducible refine choF (by assumption) ?_ | with_reducible refine choF' (by assumption) ?_ | (with_reducible refine altT ?_ ?_; first | omega | (simp only [List.length_append, List.length_cons, List.length_nil, List.length_map, List.length_take, List.length_drop, List.length_replicate, List.length_set]; omega)) | with_reducible refine altF ?_ | with_reducible refine all fun _ => ?_ | with_reducible refine both ?_ ?_ | (with_reducible refine choT ?_ ?_; omega) | (with_reducible refine choF ?_ ?_; omega) | with_reducible refine cho (fun _ => ?_) (fun _ => ?_))
    · refine ⟨_, _, _, rfl, Sub.own_sub (sz := 4) (Sub.refl _ _), l, ⟨rfl, ?_⟩, ?_, rfl⟩
      · rw [hf, List.take_length]
      · rw [hf]
  · repeat' (first | with_reducible apply Stp.go | with_reducible refine imp fun _ => ?_ | (with_reducible refine hyp ?_ ?_; first | assumption | exact leftT_mem (by assumption)) | (with_reducible refine need ?_ ?_; first | trivial | omega | exact ⟨by assumption, by omega⟩ | (simp only [List.length_append, List.length_cons, List.length_nil, List.length_map, List.length_take, List.length_drop, List.length_replicate, List.length_set]; omega)) | (with_reducible refine fact ?_ ?_; first | trivial | exact ⟨rfl, rfl⟩ | kernel_rfl) | with_reducible refine choT (by assumption) ?_ | with_reducible refine choF (by assumption) ?_ | with_reducible refine choF' (by assumption) ?_ | (with_reducible refine altT ?_ ?_; first | omega | (simp only [List.length_append, List.length_cons, List.length_nil, List.length_map, List.length_take, List.length_drop, List.length_replicate, List.length_set]; omega)) | with_reducible refine altF ?_ | with_reducible refine all fun _ => ?_ | with_reducible refine both ?_ ?_ | (with_reducible refine choT ?_ ?_; omega) | (with_reducible refine choF ?_ ?_; omega) | with_reducible refine cho (fun _ => ?_) (fun _ => ?_))
    · rw [h]
      refine loopI (β := Nat × Nat × List En) (fun x => x.1 < x.2.1 ∧ x.2.1 ≤ l.length ∧ x.2.2.length = l.length ∧ x.2.2.drop x.2.1 = l.drop x.2.1 ∧ x.2.2.take x.1 = (l.take x.2.1).filter fun e => !p e)
        (fun x => [.own v l.length, g, I .i64 (x.1 : Nat), I .i64 (x.2.1 : Nat)]) (fun x => [.row v 54 4 (x.2.2.map En.av) 0]) (fun x => l.length - x.2.1) (i0, i0 + 1, l) ⟨by dsimp only; omega, by dsimp only; omega, rfl, rfl, hf.symm⟩ (Sub.refl _ _) ?_
      rintro ⟨i, j, l'⟩ ⟨h1, h2, h3, h4, h5⟩
      dsimp only at h1 h2 h3 h4 h5 ⊢
      by_cases hlt : j < l.length
      · have e1 : l'.getD j default = l.getD j default := by
          have := congrArg (fun x => x.getD 0 default) h4
          simpa [List.getD_eq_getElem?_getD, List.getElem?_drop] using this
        have e2 : (l.take (j + 1)).filter (fun e => !p e) = (l.take j).filter (fun e => !p e) ++ (if p (l.getD j default) = true then [] else [l.getD j default]) := by
          rw [take_succ_d hlt, List.filter_append]
          generalize l.getD j default = y
          cases hd : p y <;> simp [hd]
        have e3 : l'.drop (j + 1) = l.drop (j + 1) := by
          have := congrArg (List.drop 1) h4
          simpa [List.drop_drop] using this
        rw [← e1] at e2
        repeat' (first | with_reducible apply Stp.go | with_reducible refine imp fun _ => ?_ | (with_reducible refine hyp ?_ ?_; first | assumption | exact leftT_mem (by assumption)) | (with_reducible refine need ?_ ?_; first | trivial | omega | exact ⟨by assumption, by omega⟩ | (simp only [List.length_append, List.length_cons, List.length_nil, List.length_map, List.length_take, List.length_drop, List.length_replicate, List.length_set]; omega)) | (with_reducible refine fact ?_ ?_; first | trivial | exact ⟨rfl, rfl⟩ | kernel_rfl) | with_reducible refine choT (by assumption) ?_ | with_reducible refine choF (by assumption) ?_ | with_reducible refine choF' (by assumption) ?_ | (with_reducible refine altT ?_ ?_; first | omega | (simp only [List.length_append, List.length_cons, List.length_nil, List.length_map, List.length_take, List.length_drop, List.length_replicate, List.length_set]; omega)) | with_reducible refine altF ?_ | with_reducible refine all fun _ => ?_ | with_reducible refine both ?_ ?_ | (with_reducible refine choT ?_ ?_; omega) | (with_reducible refine choF ?_ ?_; omega) | with_reducible refine cho (fun _ => ?_) (fun _ => ?_))
        · rename_i hd
          refine again (i, j + 1, l') (by dsimp only; omega) ⟨by dsimp only; omega, by dsimp only; omega, h3, e3, ?_⟩ (subS _)
          rw [e2, if_pos hd, List.append_nil]
          exact h5
        · rename_i hd
          refine again (i + 1, j + 1, l'.set i (l'.getD j default)) (by dsimp only; omega) ⟨by dsimp only; omega, by dsimp only; omega, by simpa using h3, ?_, ?_⟩ (subS _)
          · dsimp only
            rw [List.drop_set, if_pos (by omega), e3]
          · dsimp only
            rw [e2, if_neg hd, ← h5, List.take_set, List.take_succ_eq_append_getElem (by omega), List.set_append]
            simp [List.length_take, Nat.min_eq_left (show i ≤ l'.length by omega)]
      · have hj : j = l.length := by omega
        subst hj
        rw [List.take_length] at h5
        have hi : (l.filter fun e => !p e).length = i := by rw [← h5]; simp; omega
        repeat' (first | with_reducible apply Stp.go | with_reducible refine imp fun _ => ?_ | (with_reducible refine hyp ?_ ?_; first | assumption | exact leftT_mem (by assumption)) | (with_reducible refine need ?_ ?_; first | trivial | omega | exact ⟨by assumption, by omega⟩ | (simp only [List.length_append, List.length_cons, List.length_nil, List.length_map, List.length_take, List.length_drop, List.length_replicate, List.length_set]; omega)) | (with_reducible refine fact ?_ ?_; first | trivial | exact ⟨rfl, rfl⟩ | kernel_rfl) | with_reducible refine choT (by assumption) ?_ | with_reducible refine choF (by assumption) ?_ | with_reducible refine choF' (by assumption) ?_ | (with_reducible refine altT ?_ ?_; first | omega | (simp only [List.length_append, List.length_cons, List.length_nil, List.length_map, List.length_take, List.length_drop, List.length_replicate, List.length_set]; omega)) | with_reducible refine altF ?_ | with_reducible refine all fun _ => ?_ | with_reducible refine both ?_ ?_ | (with_reducible refine choT ?_ ?_; omega) | (with_reducible refine choF ?_ ?_; omega) | with_reducible refine cho (fun _ => ?_) (fun _ => ?_))
        refine ⟨_, _, _, rfl, Sub.refl _ _, _, ⟨?_, ?_⟩, by rw [hi], rfl⟩
        · simp only [List.length_append, List.length_take, List.length_replicate, List.length_drop]
          omega
        · rw [hi, List.append_assoc, List.take_append_of_le_length (by simp; omega), List.take_take, Nat.min_self, h5]
instance {g : AV} {p : En → Bool} [hg : Pred Go.Proofs.Try.prog g p] {l : List En} {v : Value} {n : Nat} {σ : Store} : EQ Go.Proofs.Try.prog 55 [.own v n, g] (.row v 54 4 (l.map En.av) 0 :: σ) (n = l.length ∧ l.length ≤ 1000000000) (List En)
    (fun l' => l'.length = l.length ∧ l'.take (l.filter fun e => !p e).length = l.filter fun e => !p e) (fun _ => .sub v 4 0 (l.filter fun e => !p e).length) (fun l' => .row v 54 4 (l'.map En.av) 0 :: σ) := ⟨fun ⟨h1, h2⟩ => by
  subst h1
  exact ((Delete_ok g p hg l v h2).frame σ).mono fun x τ ⟨σ1, e1, _, y, e2, e3, e4⟩ => ⟨y, e2, e3, by rw [e1, e4]; rfl⟩⟩
end Go.Ab

/- Reading numbers and texts. -/
set_option linter.unusedVariables false
set_option linter.unusedSimpArgs false
namespace Go.Ab
def codec_Get.mark : Mark := ⟨fun t => false, fun t => false, fun t => false, fun t => Nat.beq t 18, fun t => false⟩
def codec_Get.ann : Ann := ⟨fun n => bif Nat.beq n 3 then [5, 12, 13, 14] else [], fun n => none, fun n => none⟩
/-- 'marlstone/codec.Get' -/
def codec_Get.sh (a0 : AV) (σ : Store) (Q : AEnd → Store → Prop) : Prop :=
  Do (aBuiltin Go.Proofs.Try.prog .len #[27] [a0]) fun t10 =>
  Do (aBuiltin Go.Proofs.Try.prog .min #[3, 3] [t10, (.val (.int .i64 10))]) fun t11 =>
  Do (aSlice .slice 1 a0 none (some t11) none) fun t12 =>
  Do (aBuiltin Go.Proofs.Try.prog .len #[27] [t12]) fun t13 =>
  aLoop (fun go vs σ =>
    At vs 0 fun s5 => At vs 1 fun s12 => At vs 2 fun s13 => At vs 3 fun s14 => Do (aBin Go.Proofs.Try.prog .lss 3 s14 s13) fun t15 =>
    aCond t15
      (Do (aIndexAddr .slice 1 s12 s14) fun t17 =>
    Do (loadF false 1 t17) fun t18 =>
    Do (aBin Go.Proofs.Try.prog .eql 3 s14 (.val (.int .i64 9))) fun t20 =>
    Do (aGuard t20 true (aIs t18)) fun t22 =>
    Do (aGuard t20 true (aBin Go.Proofs.Try.prog .gtr 5 t22 (W8 1))) fun t23 =>
    Do (aPick t20 t23 (.val (.bool false))) fun t24 =>
    Do (aGuard t24 false (aIs s14)) fun t26 =>
    Do (aGuard t24 false (aBin Go.Proofs.Try.prog .gtr 3 t26 (.val (.int .i64 0)))) fun t27 =>
    Do (aGuard t24 false (aIs t27)) fun t28 =>
    Do (aGuard t28 true (aIs t18)) fun t29 =>
    Do (aGuard t28 true (aBin Go.Proofs.Try.prog .eql 5 t29 (W8 0))) fun t30 =>
    Do (aGuard t24 false (aPick t28 t30 (.val (.bool false)))) fun t31 =>
    Do (aPick t24 (.val (.bool true)) t31) fun t32 =>
    aCond t32
      (Q (.ret (.tuple [(W64 0), (.val (.int .i64 0)), (.val (.bool false))])) σ)
      (Do (aBin Go.Proofs.Try.prog .and 5 t18 (W8 127)) fun t35 =>
    Do (fun x => aConvN 5 143 t35 x Go.Proofs.Try.prog) fun t36 =>
    Do (aBin Go.Proofs.Try.prog .mul 3 (.val (.int .i64 7)) s14) fun t38 =>
    Do (aBin Go.Proofs.Try.prog .shl 143 t36 t38) fun t39 =>
    Do (aBin Go.Proofs.Try.prog .or 143 s5 t39) fun t40 =>
    Do (aBin Go.Proofs.Try.prog .lss 5 t18 (W8 128)) fun t42 =>
    aCond t42
      (Do (aBin Go.Proofs.Try.prog .add 3 s14 (.val (.int .i64 1))) fun t45 =>
      Q (.ret (.tuple [t40, t45, (.val (.bool true))])) σ)
      (Do (aBin Go.Proofs.Try.prog .add 3 s14 (.val (.int .i64 1))) fun t46 =>
    go [t40, s12, s13, t46] σ)))
      (Q (.ret (.tuple [(W64 0), (.val (.int .i64 0)), (.val (.bool false))])) σ))
    [(W64 0), t12, t13, (.val (.int .i64 0))] σ
theorem codec_Get.eq (a0 : AV) (σ : Store) (Q : AEnd → Store → Prop) : vc (semOf Go.Proofs.Try.prog codec_Get.mark) Go.Proofs.Try.f128.ntmps codec_Get.ann (bodyOf Go.Proofs.Try.f128) (endK [.tmp 2, .tmp 3, .tmp 4] Q) (argFr [a0]) σ = codec_Get.sh a0 σ Q := by kernel_rfl
theorem codec_Get.go {a0 : AV} {σ : Store} {Q : AEnd → Store → Prop} (h : codec_Get.sh a0 σ Q) : ACalls Go.Proofs.Try.prog 128 [a0] σ Q :=
  acalls_of_eq [.tmp 2, .tmp 3, .tmp 4] Go.Proofs.Try.func128 (by kernel_rfl) (by kernel_rfl) (by kernel_rfl) (by kernel_rfl) (codec_Get.eq a0 σ Q) h
def ref01_Get.mark : Mark := ⟨fun t => false, fun t => false, fun t => false, fun t => false, fun t => false⟩
def ref01_Get.ann : Ann := ⟨fun n => bif Nat.beq n 3 then [0, 5, 6] else [], fun n => none, fun n => none⟩
theorem getT (s : List UInt8) {i : Nat} (h : i < s.length) (v : Nat) : getA (s.drop i) i v = (if 10 ≤ i ∨ (i = 9 ∧ 1 < (s.getD i 0).toNat) ∨ (0 < i ∧ (s.getD i 0).toNat = 0) then none
    else if (s.getD i 0).toNat < 128 then some (v + (s.getD i 0).toNat % 128 * 128 ^ i, i + 1) else getA (s.drop (i + 1)) (i + 1) (v + (s.getD i 0).toNat % 128 * 128 ^ i)) := by
  have e := drop_cons_d h
  have e2 : s.getD i default = s.getD i 0 := rfl
  rw [e, e2, getA]
theorem g_fail {l : List UInt8} (h : getG l = none) : AEnd.ret (.tuple [W64 0, I .i64 0, B false]) = .ret (.tuple [W64 (UInt64.ofNat (getV l)), I .i64 (getN l : Nat), B (getO l)]) := by
  simp [getV, getN, getO, h]
theorem g_done {l : List UInt8} {x : UInt64} {n : Nat} (h : getG l = some (x.toNat, n)) : AEnd.ret (.tuple [W64 x, I .i64 (n : Nat), B true]) = .ret (.tuple [W64 (UInt64.ofNat (getV l)), I .i64 (getN l : Nat), B (getO l)]) := by
  simp [getV, getN, getO, h]
theorem and127 (c : UInt8) : (c &&& 127).toNat = c.toNat % 128 := by
  rw [UInt8.toNat_and]
  exact Nat.and_two_pow_sub_one_eq_mod c.toNat 7
theorem pow_step {v c i : Nat} (hv : v < 128 ^ i) (hc : c < 128) : v + c * 128 ^ i < 128 ^ (i + 1) := by
  have h1 : c * 128 ^ i ≤ 127 * 128 ^ i := Nat.mul_le_mul_right _ (by omega)
  rw [Nat.pow_succ]
  omega
theorem codec_Get_ok (l : List UInt8) (m : SM) (hl : l.length ≤ 1000000000000000) : aPure Go.Proofs.Try.prog 128 [.lst 1 (l.map byt) m] (.tuple [W64 (UInt64.ofNat (getV l)), I .i64 (getN l : Nat), B (getO l)]) := by
  refine codec_Get.go ?_
  unfold codec_Get.sh
  repeat' (first | with_reducible apply Stp.go | with_reducible refine imp fun _ => ?_ | (with_reducible refine hyp ?_ ?_; first | assumption | exact leftT_mem (by assumption)) | (with_reducible refine need ?_ ?_; first | trivial | omega | exact ⟨by assumption, by omega⟩ | (simp only [List.length_append, List.length_cons, List.length_nil, List.length_map, List.length_take, List.length_drop, List.length_replicate, List.length_set]; omega)) | (with_reducible refine fact ?_ ?_; first | trivial | exact ⟨rfl, rfl⟩ | kernel_rfl) | with_reducible refine choT (by assumption) ?_ | with_reducible refine choF (by assumption) ?_ | with_reducible refine choF' (by assumption) ?_ | (with_reducible refine altT ?_ ?_; first | omega | (simp only [List.length_append, List.length_cons, List.length_nil, List.length_map, List.length_take, List.length_drop, List.length_replicate, List.length_set]; omega)) | with_reducible refine altF ?_ | with_reducible refine all fun _ => ?_ | with_reducible refine both ?_ ?_ | (with_reducible refine choT ?_ ?_; omega) | (with_reducible refine choF ?_ ?_; omega) | with_reducible refine cho (fun _ => ?_) (fun _ => ?_))
  refine loopI (β := Nat × UInt64) (fun x => x.1 ≤ min l.length 10 ∧ x.2.toNat < 128 ^ x.1 ∧ getG l = getA (l.drop x.1) x.1 x.2.toNat) (fun x => [W64 x.2, .lst 1 ((l.take (min l.length 10)).map byt) .ro, I .i64 (min l.length 10 : Nat), I .i64 (x.1 : Nat)]) (fun _ => []) (fun x => min l.length 10 - x.1) (0, 0) ⟨Nat.zero_le _, by decide, rfl⟩ ?_ ?_
  · rw [List.length_take, Nat.min_eq_left (Nat.min_le_left _ _)]
    exact Sub.refl _ _
  rintro ⟨i, w⟩ ⟨hi, hw, hg⟩
  dsimp only at hi hw hg ⊢
  by_cases hlt : i < min l.length 10
  · rw [getT l (by omega)] at hg
    have ht : (l.take (min l.length 10)).getD i default = l.getD i 0 := by rw [List.getD_eq_getElem?_getD, List.getD_eq_getElem?_getD, List.getElem?_take, if_pos hlt]; rfl
    have hb := fun h9 => or_bits (c := (l.getD i 0).toNat % 128) (i := i) (w := w) (by omega) hw (Nat.mod_lt _ (by decide)) h9
    have hp := pow_step (c := (l.getD i 0).toNat % 128) hw (Nat.mod_lt _ (by decide))
    repeat' (first | with_reducible apply Stp.go | with_reducible refine imp fun _ => ?_ | (with_reducible refine hyp ?_ ?_; first | assumption | exact leftT_mem (by assumption)) | (with_reducible refine need ?_ ?_; first | trivial | omega | exact ⟨by assumption, by omega⟩ | (simp only [List.length_append, List.length_cons, List.length_nil, List.length_map, List.length_take, List.length_drop, List.length_replicate, List.length_set]; omega)) | (with_reducible refine fact ?_ ?_; first | trivial | exact ⟨rfl, rfl⟩ | kernel_rfl) | with_reducible refine choT (by assumption) ?_ | with_reducible refine choF (by assumption) ?_ | with_reducible refine choF' (by assumption) ?_ | (with_reducible refine altT ?_ ?_; first | omega | (simp only [List.length_append, List.length_cons, List.length_nil, List.length_map, List.length_take, List.length_drop, List.length_replicate, List.length_set]; omega)) | with_reducible refine altF ?_ | with_reducible refine all fun _ => ?_ | with_reducible refine both ?_ ?_ | (with_reducible refine choT ?_ ?_; omega) | (with_reducible refine choF ?_ ?_; omega) | with_reducible refine cho (fun _ => ?_) (fun _ => ?_))
    all_goals simp only [ht, and127] at *
    all_goals
      first
      | (refine ⟨g_fail ?_, by trivial⟩; rw [hg, if_pos (by omega)])
      | (refine ⟨g_done ?_, by trivial⟩; rw [hg, if_neg (by omega), if_pos (by omega), hb (by omega)])
      | (rw [if_neg (by omega), if_neg (by omega), ← hb (by omega)] at hg
         rw [← hb (by omega)] at hp
         exact again (i + 1, _) (by dsimp only; omega) ⟨by dsimp only; omega, hp, hg⟩ (Sub.refl _ _))
  · have hn : getG l = none := by
      rw [hg]
      rcases Nat.lt_or_ge i 10 with h | h
      · rw [List.drop_eq_nil_of_le (by omega)]
        rfl
      · exact getA_ge _ _ h
    repeat' (first | with_reducible apply Stp.go | with_reducible refine imp fun _ => ?_ | (with_reducible refine hyp ?_ ?_; first | assumption | exact leftT_mem (by assumption)) | (with_reducible refine need ?_ ?_; first | trivial | omega | exact ⟨by assumption, by omega⟩ | (simp only [List.length_append, List.length_cons, List.length_nil, List.length_map, List.length_take, List.length_drop, List.length_replicate, List.length_set]; omega)) | (with_reducible refine fact ?_ ?_; first | trivial | exact ⟨rfl, rfl⟩ | kernel_rfl) | with_reducible refine choT (by assumption) ?_ | with_reducible refine choF (by assumption) ?_ | with_reducible refine choF' (by assumption) ?_ | (with_reducible refine altT ?_ ?_; first | omega | (simp only [List.length_append, List.length_cons, List.length_nil, List.length_map, List.length_take, List.length_drop, List.length_replicate, List.length_set]; omega)) | with_reducible refine altF ?_ | with_reducible refine all fun _ => ?_ | with_reducible refine both ?_ ?_ | (with_reducible refine choT ?_ ?_; omega) | (with_reducible refine choF ?_ ?_; omega) | with_reducible refine cho (fun _ => ?_) (fun _ => ?_))
    exact ⟨g_fail hn, by trivial⟩
instance {a : AV} {l : List UInt8} {m : SM} [h : IsL a byt 1 l m] : PC Go.Proofs.Try.prog 128 [a] (l.length ≤ 1000000000000000) (.tuple [W64 (UInt64.ofNat (getV l)), I .i64 (getN l : Nat), B (getO l)]) := ⟨fun hl => ⟨[.lst 1 (l.map byt) m], ⟨h.sub, trivial⟩, codec_Get_ok l m hl⟩⟩
def codec_Text.mark : Mark := ⟨fun t => Nat.beq t 11, fun t => false, fun t => false, fun t => false, fun t => false⟩
def codec_Text.ann : Ann := ⟨fun n => [], fun n => none, fun n => none⟩
/-- 'marlstone/codec.Text' -/
def codec_Text.sh (a0 : AV) (σ : Store) (Q : AEnd → Store → Prop) : Prop :=
  Do (aPureC Go.Proofs.Try.prog 128 [a0]) fun t11 =>
  Do (aExt t11 0) fun t12 =>
  Do (aExt t11 1) fun t13 =>
  Do (aExt t11 2) fun t14 =>
  Do (aUn Go.Proofs.Try.prog .not t14) fun t16 =>
  Do (aGuard t16 false (aIs t12)) fun t18 =>
  Do (aGuard t16 false (aIs a0)) fun t19 =>
  Do (aGuard t16 false (aBuiltin Go.Proofs.Try.prog .len #[27] [t19])) fun t20 =>
  Do (aGuard t16 false (aIs t13)) fun t21 =>
  Do (aGuard t16 false (aBin Go.Proofs.Try.prog .sub 3 t20 t21)) fun t22 =>
  Do (aGuard t16 false (fun x => aConvN 3 143 t22 x Go.Proofs.Try.prog)) fun t23 =>
  Do (aGuard t16 false (aBin Go.Proofs.Try.prog .gtr 143 t18 t23)) fun t24 =>
  Do (aPick t16 (.val (.bool true)) t24) fun t25 =>
  aCond t25
    (Q (.ret (.tuple [(.val (.string ⟨#[]⟩)), (.val (.int .i64 0)), (.val (.bool false))])) σ)
    (Do (fun x => aConvN 143 3 t12 x Go.Proofs.Try.prog) fun t28 =>
  Do (aBin Go.Proofs.Try.prog .add 3 t13 t28) fun t29 =>
  Do (aSlice .slice 1 a0 (some t13) (some t29) none) fun t33 =>
  Do (aConvBS t33) fun t34 =>
  Q (.ret (.tuple [t34, t29, (.val (.bool true))])) σ)
theorem codec_Text.eq (a0 : AV) (σ : Store) (Q : AEnd → Store → Prop) : vc (semOf Go.Proofs.Try.prog codec_Text.mark) Go.Proofs.Try.f129.ntmps codec_Text.ann (bodyOf Go.Proofs.Try.f129) (endK [.tmp 2, .tmp 3, .tmp 4] Q) (argFr [a0]) σ = codec_Text.sh a0 σ Q := by kernel_rfl
theorem codec_Text.go {a0 : AV} {σ : Store} {Q : AEnd → Store → Prop} (h : codec_Text.sh a0 σ Q) : ACalls Go.Proofs.Try.prog 129 [a0] σ Q :=
  acalls_of_eq [.tmp 2, .tmp 3, .tmp 4] Go.Proofs.Try.func129 (by kernel_rfl) (by kernel_rfl) (by kernel_rfl) (by kernel_rfl) (codec_Text.eq a0 σ Q) h
def ref01_Text.mark : Mark := ⟨fun t => Nat.beq t 10, fun t => false, fun t => false, fun t => false, fun t => false⟩
def ref01_Text.ann : Ann := ⟨fun n => [], fun n => none, fun n => none⟩
theorem textG_eq (l : List UInt8) : textG l = if getO l = true then (if l.length - getN l < getV l then none else some ((l.drop (getN l)).take (getV l), getN l + getV l)) else none := by
  unfold textG getO getN getV
  cases getG l with
  | none => rfl
  | some r => rfl
theorem t_fail {l : List UInt8} (h : textG l = none) : AEnd.ret (.tuple [.val (.string ⟨#[]⟩), I .i64 0, B false]) = .ret (.tuple [S (textV l), I .i64 (textN l : Nat), B (textO l)]) := by
  simp [textV, textN, textO, h]
theorem t_done {l t : List UInt8} {n : Nat} (h : textG l = some (t, n)) : AEnd.ret (.tuple [S t, I .i64 (n : Nat), B true]) = .ret (.tuple [S (textV l), I .i64 (textN l : Nat), B (textO l)]) := by
  simp [textV, textN, textO, h]
theorem codec_Text_ok (l : List UInt8) (m : SM) (hl : l.length ≤ 1000000000000000) : aPure Go.Proofs.Try.prog 129 [.lst 1 (l.map byt) m] (.tuple [S (textV l), I .i64 (textN l : Nat), B (textO l)]) := by
  refine codec_Text.go ?_
  unfold codec_Text.sh
  obtain ⟨b1, b2, b3, b4⟩ := get_bound (s := l)
  have hu := u64_len b1
  repeat' (first | with_reducible apply Stp.go | with_reducible refine imp fun _ => ?_ | (with_reducible refine hyp ?_ ?_; first | assumption | exact leftT_mem (by assumption)) | (with_reducible refine need ?_ ?_; first | trivial | omega | exact ⟨by assumption, by omega⟩ | (simp only [List.length_append, List.length_cons, List.length_nil, List.length_map, List.length_take, List.length_drop, List.length_replicate, List.length_set]; omega)) | (with_reducible refine fact ?_ ?_; first | trivial | exact ⟨rfl, rfl⟩ | kernel_rfl) | with_reducible refine choT (by assumption) ?_ | with_reducible refine choF (by assumption) ?_ | with_reducible refine choF' (by assumption) ?_ | (with_reducible refine altT ?_ ?_; first | omega | (simp only [List.length_append, List.length_cons, List.length_nil, List.length_map, List.length_take, List.length_drop, List.length_replicate, List.length_set]; omega)) | with_reducible refine altF ?_ | with_reducible refine all fun _ => ?_ | with_reducible refine both ?_ ?_ | (with_reducible refine choT ?_ ?_; omega) | (with_reducible refine choF ?_ ?_; omega) | with_reducible refine cho (fun _ => ?_) (fun _ => ?_))
  · rename_i h1 h2
    refine ⟨t_fail ?_, rfl⟩
    rw [textG_eq, if_pos h1, if_pos (by omega)]
  · rename_i h1 h2
    rw [Nat.mod_eq_of_lt b1]
    refine ⟨t_done ?_, rfl⟩
    rw [textG_eq, if_pos h1, if_neg (by omega), List.drop_take, Nat.add_sub_cancel_left]
  · rename_i h1
    refine ⟨t_fail ?_, rfl⟩
    rw [textG_eq, if_neg h1]
instance {a : AV} {l : List UInt8} {m : SM} [h : IsL a byt 1 l m] : PC Go.Proofs.Try.prog 129 [a] (l.length ≤ 1000000000000000) (.tuple [S (textV l), I .i64 (textN l : Nat), B (textO l)]) := ⟨fun hl => ⟨[.lst 1 (l.map byt) m], ⟨h.sub, trivial⟩, codec_Text_ok l m hl⟩⟩
end Go.Ab

/- Reading an entry. -/
set_option linter.unusedVariables false
set_option linter.unusedSimpArgs false
namespace Go.Ab
def entry_reader_number.mark : Mark := ⟨fun t => Nat.beq t 16, fun t => false, fun t => false, fun t => false, fun t => false⟩
def entry_reader_number.ann : Ann := ⟨fun n => [], fun n => none, fun n => none⟩
/-- '(*marlstone/entry.reader).number' -/
def entry_reader_number.sh (a0 : AV) (σ : Store) (Q : AEnd → Store → Prop) : Prop :=
  Do (aNil a0) fun t8 =>
  Do (aFieldAddr 0 1 t8) fun t9 =>
  Do (loadA false 1 t9 σ) fun t10 =>
  Do (aNil a0) fun t12 =>
  Do (aFieldAddr 1 1 t12) fun t13 =>
  Do (loadA false 1 t13 σ) fun t14 =>
  Do (aSlice .slice 1 t10 (some t14) none none) fun t15 =>
  Do (aPureC Go.Proofs.Try.prog 128 [t15]) fun t16 =>
  Do (aExt t16 0) fun t17 =>
  Do (aExt t16 1) fun t18 =>
  Do (aExt t16 2) fun t19 =>
  Do (aNil a0) fun t21 =>
  Do (aFieldAddr 1 1 t21) fun t22 =>
  Do (loadA false 1 t22 σ) fun t23 =>
  Do (aBin Go.Proofs.Try.prog .add 3 t23 t18) fun t25 =>
  Do (aNil a0) fun t26 =>
  Do (aFieldAddr 1 1 t26) fun t27 =>
  storeA 1 t27 t25 σ fun u σ =>
  Do (aNil a0) fun t30 =>
  Do (aFieldAddr 2 1 t30) fun t31 =>
  Do (loadA false 1 t31 σ) fun t32 =>
  Do (aGuard t32 false (aIs t19)) fun t34 =>
  Do (aGuard t32 false (aUn Go.Proofs.Try.prog .not t34)) fun t35 =>
  Do (aPick t32 (.val (.bool true)) t35) fun t36 =>
  Do (aNil a0) fun t37 =>
  Do (aFieldAddr 2 1 t37) fun t38 =>
  storeA 1 t38 t36 σ fun u_1 σ_1 =>
  Q (.ret t17) σ_1
theorem entry_reader_number.eq (a0 : AV) (σ : Store) (Q : AEnd → Store → Prop) : vc (semOf Go.Proofs.Try.prog entry_reader_number.mark) Go.Proofs.Try.f114.ntmps entry_reader_number.ann (bodyOf Go.Proofs.Try.f114) (endK [.tmp 2] Q) (argFr [a0]) σ = entry_reader_number.sh a0 σ Q := by kernel_rfl
theorem entry_reader_number.go {a0 : AV} {σ : Store} {Q : AEnd → Store → Prop} (h : entry_reader_number.sh a0 σ Q) : ACalls Go.Proofs.Try.prog 114 [a0] σ Q :=
  acalls_of_eq [.tmp 2] Go.Proofs.Try.func114 (by kernel_rfl) (by kernel_rfl) (by kernel_rfl) (by kernel_rfl) (entry_reader_number.eq a0 σ Q) h
def entry_reader_text.mark : Mark := ⟨fun t => Nat.beq t 16, fun t => false, fun t => false, fun t => false, fun t => false⟩
def entry_reader_text.ann : Ann := ⟨fun n => [], fun n => none, fun n => none⟩
/-- '(*marlstone/entry.reader).text' -/
def entry_reader_text.sh (a0 : AV) (σ : Store) (Q : AEnd → Store → Prop) : Prop :=
  Do (aNil a0) fun t8 =>
  Do (aFieldAddr 0 1 t8) fun t9 =>
  Do (loadA false 1 t9 σ) fun t10 =>
  Do (aNil a0) fun t12 =>
  Do (aFieldAddr 1 1 t12) fun t13 =>
  Do (loadA false 1 t13 σ) fun t14 =>
  Do (aSlice .slice 1 t10 (some t14) none none) fun t15 =>
  Do (aPureC Go.Proofs.Try.prog 129 [t15]) fun t16 =>
  Do (aExt t16 0) fun t17 =>
  Do (aExt t16 1) fun t18 =>
  Do (aExt t16 2) fun t19 =>
  Do (aNil a0) fun t21 =>
  Do (aFieldAddr 1 1 t21) fun t22 =>
  Do (loadA false 1 t22 σ) fun t23 =>
  Do (aBin Go.Proofs.Try.prog .add 3 t23 t18) fun t25 =>
  Do (aNil a0) fun t26 =>
  Do (aFieldAddr 1 1 t26) fun t27 =>
  storeA 1 t27 t25 σ fun u σ =>
  Do (aNil a0) fun t30 =>
  Do (aFieldAddr 2 1 t30) fun t31 =>
  Do (loadA false 1 t31 σ) fun t32 =>
  Do (aGuard t32 false (aIs t19)) fun t34 =>
  Do (aGuard t32 false (aUn Go.Proofs.Try.prog .not t34)) fun t35 =>
  Do (aPick t32 (.val (.bool true)) t35) fun t36 =>
  Do (aNil a0) fun t37 =>
  Do (aFieldAddr 2 1 t37) fun t38 =>
  storeA 1 t38 t36 σ fun u_1 σ_1 =>
  Q (.ret t17) σ_1
theorem entry_reader_text.eq (a0 : AV) (σ : Store) (Q : AEnd → Store → Prop) : vc (semOf Go.Proofs.Try.prog entry_reader_text.mark) Go.Proofs.Try.f115.ntmps entry_reader_text.ann (bodyOf Go.Proofs.Try.f115) (endK [.tmp 2] Q) (argFr [a0]) σ = entry_reader_text.sh a0 σ Q := by kernel_rfl
theorem entry_reader_text.go {a0 : AV} {σ : Store} {Q : AEnd → Store → Prop} (h : entry_reader_text.sh a0 σ Q) : ACalls Go.Proofs.Try.prog 115 [a0] σ Q :=
  acalls_of_eq [.tmp 2] Go.Proofs.Try.func115 (by kernel_rfl) (by kernel_rfl) (by kernel_rfl) (by kernel_rfl) (entry_reader_text.eq a0 σ Q) h
theorem number_ok (b : Nat) (l : List UInt8) (m : SM) (at_ : Nat) (w : Bool) (hl : l.length ≤ 1000000000000000) (ha : at_ ≤ l.length) : ACalls Go.Proofs.Try.prog 114 [ptrAt b 0] [.var b 158 [.lst 1 (l.map byt) m, I .i64 (at_ : Nat), B w]]
    fun x σ' => x = .ret (W64 (UInt64.ofNat (getV (l.drop at_)))) ∧ σ' = [.var b 158 [.lst 1 (l.map byt) m, I .i64 ((at_ + getN (l.drop at_) : Nat) : Int), B (w || !getO (l.drop at_))]] := by
  refine entry_reader_number.go ?_
  unfold entry_reader_number.sh
  obtain ⟨b1, b2, b3, b4⟩ := get_bound (s := l.drop at_)
  rw [List.length_drop] at b3
  repeat' (first | with_reducible apply Stp.go | with_reducible refine imp fun _ => ?_ | (with_reducible refine hyp ?_ ?_; first | assumption | exact leftT_mem (by assumption)) | (with_reducible refine need ?_ ?_; first | trivial | omega | exact ⟨by assumption, by omega⟩ | (simp only [List.length_append, List.length_cons, List.length_nil, List.length_map, List.length_take, List.length_drop, List.length_replicate, List.length_set]; omega)) | (with_reducible refine fact ?_ ?_; first | trivial | exact ⟨rfl, rfl⟩ | kernel_rfl) | with_reducible refine choT (by assumption) ?_ | with_reducible refine choF (by assumption) ?_ | with_reducible refine choF' (by assumption) ?_ | (with_reducible refine altT ?_ ?_; first | omega | (simp only [List.length_append, List.length_cons, List.length_nil, List.length_map, List.length_take, List.length_drop, List.length_replicate, List.length_set]; omega)) | with_reducible refine altF ?_ | with_reducible refine all fun _ => ?_ | with_reducible refine both ?_ ?_ | (with_reducible refine choT ?_ ?_; omega) | (with_reducible refine choF ?_ ?_; omega) | with_reducible refine cho (fun _ => ?_) (fun _ => ?_))
  all_goals
    refine ⟨rfl, ?_⟩
    simp_all
instance {b at_ : Nat} {l : List UInt8} {m : SM} {w : Bool} {x : Int} {σ rest : Store} {put : Ent → Store} [hv : VarAt b σ 158 [.lst 1 (l.map byt) m, .val (.int .i64 x), B w] put rest] [hx : NatOf x at_] : EC Go.Proofs.Try.prog 114 [ptrAt b 0] σ (l.length ≤ 1000000000000000 ∧ at_ ≤ l.length) Unit
    (fun _ => W64 (UInt64.ofNat (getV (l.drop at_)))) (fun _ => put (.var b 158 [.lst 1 (l.map byt) m, I .i64 ((at_ + getN (l.drop at_) : Nat) : Int), B (w || !getO (l.drop at_))])) := ⟨fun ⟨h1, h2⟩ => by
  have e := hx.eq
  subst e
  exact (ACalls.at_ (number_ok b l m at_ w h1 h2)).mono fun x σ' ⟨g1, g2⟩ => ⟨(), g1, g2⟩⟩
theorem text_ok (b : Nat) (l : List UInt8) (m : SM) (at_ : Nat) (w : Bool) (hl : l.length ≤ 1000000000000000) (ha : at_ ≤ l.length) : ACalls Go.Proofs.Try.prog 115 [ptrAt b 0] [.var b 158 [.lst 1 (l.map byt) m, I .i64 (at_ : Nat), B w]]
    fun x σ' => x = .ret (S (textV (l.drop at_))) ∧ σ' = [.var b 158 [.lst 1 (l.map byt) m, I .i64 ((at_ + textN (l.drop at_) : Nat) : Int), B (w || !textO (l.drop at_))]] := by
  refine entry_reader_text.go ?_
  unfold entry_reader_text.sh
  obtain ⟨b1, b2, b3⟩ := text_bound (s := l.drop at_)
  rw [List.length_drop] at b1
  repeat' (first | with_reducible apply Stp.go | with_reducible refine imp fun _ => ?_ | (with_reducible refine hyp ?_ ?_; first | assumption | exact leftT_mem (by assumption)) | (with_reducible refine need ?_ ?_; first | trivial | omega | exact ⟨by assumption, by omega⟩ | (simp only [List.length_append, List.length_cons, List.length_nil, List.length_map, List.length_take, List.length_drop, List.length_replicate, List.length_set]; omega)) | (with_reducible refine fact ?_ ?_; first | trivial | exact ⟨rfl, rfl⟩ | kernel_rfl) | with_reducible refine choT (by assumption) ?_ | with_reducible refine choF (by assumption) ?_ | with_reducible refine choF' (by assumption) ?_ | (with_reducible refine altT ?_ ?_; first | omega | (simp only [List.length_append, List.length_cons, List.length_nil, List.length_map, List.length_take, List.length_drop, List.length_replicate, List.length_set]; omega)) | with_reducible refine altF ?_ | with_reducible refine all fun _ => ?_ | with_reducible refine both ?_ ?_ | (with_reducible refine choT ?_ ?_; omega) | (with_reducible refine choF ?_ ?_; omega) | with_reducible refine cho (fun _ => ?_) (fun _ => ?_))
  all_goals
    refine ⟨rfl, ?_⟩
    simp_all
instance {b at_ : Nat} {l : List UInt8} {m : SM} {w : Bool} {x : Int} {σ rest : Store} {put : Ent → Store} [hv : VarAt b σ 158 [.lst 1 (l.map byt) m, .val (.int .i64 x), B w] put rest] [hx : NatOf x at_] : EC Go.Proofs.Try.prog 115 [ptrAt b 0] σ (l.length ≤ 1000000000000000 ∧ at_ ≤ l.length) Unit
    (fun _ => S (textV (l.drop at_))) (fun _ => put (.var b 158 [.lst 1 (l.map byt) m, I .i64 ((at_ + textN (l.drop at_) : Nat) : Int), B (w || !textO (l.drop at_))])) := ⟨fun ⟨h1, h2⟩ => by
  have e := hx.eq
  subst e
  exact (ACalls.at_ (text_ok b l m at_ w h1 h2)).mono fun x σ' ⟨g1, g2⟩ => ⟨(), g1, g2⟩⟩
def entry_Parse.mark : Mark := ⟨fun t => Nat.beq t 45, fun t => false, fun t => false, fun t => Nat.beq t 14 || Nat.beq t 27, fun t => false⟩
def entry_Parse.ann : Ann := ⟨fun n => [], fun n => bif Nat.beq n 8 then some [2, 5, 7] else none, fun n => bif Nat.beq n 5 then some [2, 5, 7] else bif Nat.beq n 10 then some [2, 3, 4] else none⟩
/-- 'marlstone/entry.Parse' -/
def entry_Parse.sh (a0 : AV) (σ : Store) (Q : AEnd → Store → Prop) : Prop :=
  aNewVar 54 [.val (.string ⟨#[]⟩), .val (.string ⟨#[]⟩), .val (.bool false), .val (.int .i64 0)] σ fun t2 σ =>
  Do (aBuiltin Go.Proofs.Try.prog .len #[27] [a0]) fun t9 =>
  Do (aBin Go.Proofs.Try.prog .eql 3 t9 (.val (.int .i64 0))) fun t10 =>
  Do (aGuard t10 false (aIs a0)) fun t12 =>
  Do (aGuard t10 false (aIndexAddr .slice 1 t12 (.val (.int .i64 0)))) fun t13 =>
  Do (aGuard t10 false (loadF false 1 t13)) fun t14 =>
  Do (aGuard t10 false (aBin Go.Proofs.Try.prog .gtr 5 t14 (W8 1))) fun t15 =>
  Do (aPick t10 (.val (.bool true)) t15) fun t16 =>
  aCond t16
    (Do (aLit [.val (.string ⟨#[]⟩), .val (.string ⟨#[]⟩), .val (.bool false), .val (.int .i64 0)] [(0, 1), (1, 1), (2, 1), (3, 1)] []) fun t17 =>
    storeA 4 t2 t17 σ fun u σ_1 =>
    Do (loadA true 4 t2 σ_1) fun r2 => Q (.ret (.tuple [r2, (.val (.int .i64 0)), (.val (.int .i64 2))])) σ_1)
    (Do (aLit [.val (.slice none 0 0), .val (.int .i64 0), .val (.bool false)] [(0, 1), (1, 1), (2, 1)] [(0, a0), (1, (.val (.int .i64 1)))]) fun t19 =>
  aNewVar 158 (t19 : AV).cells σ fun t20 σ_2 =>
  aCall Go.Proofs.Try.prog 114 [t20] σ_2 (fun t22 σ_3 =>
  aJoin (fun j =>
    Do (aIndexAddr .slice 1 a0 (.val (.int .i64 0))) fun t26 =>
    Do (loadF false 1 t26) fun t27 =>
    Do (aBin Go.Proofs.Try.prog .eql 5 t27 (W8 1)) fun t28 =>
    Do (aBuiltin Go.Proofs.Try.prog .min #[143, 143] [t22, (W64 1099511627777)]) fun t30 =>
    Do (fun x => aConvN 143 3 t30 x Go.Proofs.Try.prog) fun t31 =>
    Both (aCall Go.Proofs.Try.prog 115 [t20] σ_3 (fun t24 σ_5 =>
    Do (aLit [.val (.string ⟨#[]⟩), .val (.string ⟨#[]⟩), .val (.bool false), .val (.int .i64 0)] [(0, 1), (1, 1), (2, 1), (3, 1)] [(0, t24), (2, t28), (3, t31)]) fun t32 =>
    aNewVar 54 [.val (.string ⟨#[]⟩), .val (.string ⟨#[]⟩), .val (.bool false), .val (.int .i64 0)] σ_5 fun t7 σ_6 =>
    storeA 4 t7 t32 σ_6 fun u_1 σ_7 =>
    j [t2, t20, t7] σ_7) (fun e σ_8 => Q (.pan e) σ_8)) (aNewVar 54 [.val (.string ⟨#[]⟩), .val (.string ⟨#[]⟩), .val (.bool false), .val (.int .i64 0)] σ_3 fun t7_1 σ_9 =>
    aCall Go.Proofs.Try.prog 115 [t20] σ_9 (fun t24_1 σ_10 =>
    Do (aLit [.val (.string ⟨#[]⟩), .val (.string ⟨#[]⟩), .val (.bool false), .val (.int .i64 0)] [(0, 1), (1, 1), (2, 1), (3, 1)] [(0, t24_1), (2, t28), (3, t31)]) fun t32_1 =>
    storeA 4 t7_1 t32_1 σ_10 fun u_2 σ_11 =>
    j [t2, t20, t7_1] σ_11) (fun e_1 σ_12 => Q (.pan e_1) σ_12))) fun vs σ_4 =>
  At vs 0 fun s2 => At vs 1 fun s5 => At vs 2 fun s7 => aJoin (fun j_1 =>
    Do (aFieldAddr 2 1 s7) fun t33 =>
    Do (loadA false 1 t33 σ_4) fun t34 =>
    Do (aUn Go.Proofs.Try.prog .not t34) fun t35 =>
    aCond t35
      (aCall Go.Proofs.Try.prog 115 [s5] σ_4 (fun t37 σ_14 =>
      Do (aFieldAddr 1 1 s7) fun t38 =>
      storeA 1 t38 t37 σ_14 fun u_3 σ_15 =>
      j_1 [s2, s5, s7] σ_15) (fun e_2 σ_16 => Q (.pan e_2) σ_16))
      (j_1 [s2, s5, s7] σ_4)) fun vs_1 σ_13 =>
  At vs_1 0 fun s2_1 => At vs_1 1 fun s5_1 => At vs_1 2 fun s7_1 => Do (aNil s5_1) fun t40 =>
  Do (aFieldAddr 2 1 t40) fun t41 =>
  Do (loadA false 1 t41 σ_13) fun t42 =>
  Do (aGuard t42 false (loadA true 4 s7_1 σ_13)) fun t44 =>
  Do (aGuard t42 false (aPureC Go.Proofs.Try.prog 61 [t44])) fun t45 =>
  Do (aGuard t42 false (aUn Go.Proofs.Try.prog .not t45)) fun t46 =>
  Do (aPick t42 (.val (.bool true)) t46) fun t47 =>
  aCond t47
    (Do (aLit [.val (.string ⟨#[]⟩), .val (.string ⟨#[]⟩), .val (.bool false), .val (.int .i64 0)] [(0, 1), (1, 1), (2, 1), (3, 1)] []) fun t48 =>
    storeA 4 s2_1 t48 σ_13 fun u_4 σ_17 =>
    Do (loadA true 4 s2_1 σ_17) fun r2_1 => Q (.ret (.tuple [r2_1, (.val (.int .i64 0)), (.val (.int .i64 2))])) σ_17)
    (aJoin (fun j_2 =>
    Do (loadA true 4 s7_1 σ_13) fun t49 =>
    Do (aNil s5_1) fun t51 =>
    Do (aFieldAddr 1 1 t51) fun t52 =>
    Both (Do (loadA false 1 t52 σ_13) fun t53 =>
    storeA 4 s2_1 t49 σ_13 fun u_5 σ_19 =>
    j_2 [s2_1, t53, (.val (.int .i64 0))] σ_19) (storeA 4 s2_1 t49 σ_13 fun u_6 σ_20 =>
    Do (loadA false 1 t52 σ_20) fun t53_1 =>
    j_2 [s2_1, t53_1, (.val (.int .i64 0))] σ_20)) fun vs_2 σ_18 =>
  At vs_2 0 fun s2_2 => At vs_2 1 fun s3 => At vs_2 2 fun s4 => Do (loadA true 4 s2_2 σ_18) fun r2_2 => Q (.ret (.tuple [r2_2, s3, s4])) σ_18)) (fun e_3 σ_21 => Q (.pan e_3) σ_21))
theorem entry_Parse.eq (a0 : AV) (σ : Store) (Q : AEnd → Store → Prop) : vc (semOf Go.Proofs.Try.prog entry_Parse.mark) Go.Proofs.Try.f93.ntmps entry_Parse.ann (bodyOf Go.Proofs.Try.f93) (endK [.cell 2 true 4, .tmp 3, .tmp 4] Q) (argFr [a0]) σ = entry_Parse.sh a0 σ Q := by kernel_rfl
theorem entry_Parse.go {a0 : AV} {σ : Store} {Q : AEnd → Store → Prop} (h : entry_Parse.sh a0 σ Q) : ACalls Go.Proofs.Try.prog 93 [a0] σ Q :=
  acalls_of_eq [.cell 2 true 4, .tmp 3, .tmp 4] Go.Proofs.Try.func93 (by kernel_rfl) (by kernel_rfl) (by kernel_rfl) (by kernel_rfl) (entry_Parse.eq a0 σ Q) h
def ref03_Parse.mark : Mark := ⟨fun t => Nat.beq t 28 || Nat.beq t 45 || Nat.beq t 69 || Nat.beq t 82, fun t => false, fun t => false, fun t => false, fun t => false⟩
def ref03_Parse.ann : Ann := ⟨fun n => [], fun n => bif Nat.beq n 18 then some [2, 8, 12] else none, fun n => none⟩
theorem p_fail {l : List UInt8} (h : parseE l = none) : AEnd.ret (.tuple [En.zero.av, I .i64 0, I .i64 2]) = .ret (.tuple [(parseV l).av, I .i64 (parseN l : Nat), I .i64 (parseX l)]) := by
  simp [parseV, parseN, parseX, h]
theorem p_done {l : List UInt8} {e : En} {n : Nat} (h : parseE l = some (e, n)) : AEnd.ret (.tuple [e.av, I .i64 (n : Nat), I .i64 0]) = .ret (.tuple [(parseV l).av, I .i64 (parseN l : Nat), I .i64 (parseX l)]) := by
  simp [parseV, parseN, parseX, h]
theorem entry_Parse_ok (l : List UInt8) (m : SM) (hl : l.length ≤ 1000000000000000) : aPure Go.Proofs.Try.prog 93 [.lst 1 (l.map byt) m] (.tuple [(parseV l).av, I .i64 (parseN l : Nat), I .i64 (parseX l)]) := by
  refine ACalls.fin (entry_Parse.go ?_)
  unfold entry_Parse.sh
  obtain ⟨b1, b2, b3, b4⟩ := get_bound (s := l.drop 1)
  obtain ⟨c1, c2, c3⟩ := text_bound (s := l.drop (1 + getN (l.drop 1)))
  obtain ⟨d1, d2, d3⟩ := text_bound (s := l.drop (1 + getN (l.drop 1) + textN (l.drop (1 + getN (l.drop 1)))))
  rw [List.length_drop] at b3 c1 d1
  repeat' (first | with_reducible apply Stp.go | with_reducible refine imp fun _ => ?_ | (with_reducible refine hyp ?_ ?_; first | assumption | exact leftT_mem (by assumption)) | (with_reducible refine need ?_ ?_; first | trivial | omega | exact ⟨by assumption, by omega⟩ | (simp only [List.length_append, List.length_cons, List.length_nil, List.length_map, List.length_take, List.length_drop, List.length_replicate, List.length_set]; omega)) | (with_reducible refine fact ?_ ?_; first | trivial | exact ⟨rfl, rfl⟩ | kernel_rfl) | with_reducible refine choT (by assumption) ?_ | with_reducible refine choF (by assumption) ?_ | with_reducible refine choF' (by assumption) ?_ | (with_reducible refine altT ?_ ?_; first | omega | (simp only [List.length_append, List.length_cons, List.length_nil, List.length_map, List.length_take, List.length_drop, List.length_replicate, List.length_set]; omega)) | with_reducible refine altF ?_ | with_reducible refine all fun _ => ?_ | with_reducible refine both ?_ ?_ | (with_reducible refine choT ?_ ?_; omega) | (with_reducible refine choF ?_ ?_; omega) | with_reducible refine cho (fun _ => ?_) (fun _ => ?_))
  · rename_i h0
    refine ⟨_, _, _, rfl, Sub.app_nil _, p_fail ?_, rfl⟩
    rw [parseE, if_pos (.inl (List.length_eq_zero_iff.1 h0))]
  · rename_i h0 h1
    refine ⟨_, _, _, rfl, Sub.app_nil _, p_fail ?_, rfl⟩
    rw [parseE, if_pos (.inr h1)]
  · rename_i r2 h0 h1 r _
    have hmin : (if (UInt64.ofNat (getV (l.drop 1))).toNat ≤ UInt64.toNat 1099511627777 then UInt64.ofNat (getV (l.drop 1)) else 1099511627777).toNat = min (getV (l.drop 1)) 1099511627777 := by
      have e := u64_len b1
      have e2 : UInt64.toNat 1099511627777 = 1099511627777 := rfl
      rw [e, e2]
      split
      · rw [e]; omega
      · rw [e2]; omega
    refine joinI (β := Nat) (fun _ => True) (fun b => [ptrAt r2 0, ptrAt r 0, ptrAt b 0]) (fun b => [.var r 158 [.lst 1 (l.map byt) m, I .i64 ((1 + getN (l.drop 1) + textN (l.drop (1 + getN (l.drop 1))) : Nat) : Int), B (!getO (l.drop 1) || !textO (l.drop (1 + getN (l.drop 1))))], .var r2 54 En.zero.cs,
      .var b 54 (En.cs ⟨textV (l.drop (1 + getN (l.drop 1))), [], decide ((l.getD 0 default).toNat = 1), (min (getV (l.drop 1)) 1099511627777 : Nat)⟩)]) ?_ ?_
    · repeat' (first | with_reducible apply Stp.go | with_reducible refine imp fun _ => ?_ | (with_reducible refine hyp ?_ ?_; first | assumption | exact leftT_mem (by assumption)) | (with_reducible refine need ?_ ?_; first | trivial | omega | exact ⟨by assumption, by omega⟩ | (simp only [List.length_append, List.length_cons, List.length_nil, List.length_map, List.length_take, List.length_drop, List.length_replicate, List.length_set]; omega)) | (with_reducible refine fact ?_ ?_; first | trivial | exact ⟨rfl, rfl⟩ | kernel_rfl) | with_reducible refine choT (by assumption) ?_ | with_reducible refine choF (by assumption) ?_ | with_reducible refine choF' (by assumption) ?_ | (with_reducible refine altT ?_ ?_; first | omega | (simp only [List.length_append, List.length_cons, List.length_nil, List.length_map, List.length_take, List.length_drop, List.length_replicate, List.length_set]; omega)) | with_reducible refine altF ?_ | with_reducible refine all fun _ => ?_ | with_reducible refine both ?_ ?_ | (with_reducible refine choT ?_ ?_; omega) | (with_reducible refine choF ?_ ?_; omega) | with_reducible refine cho (fun _ => ?_) (fun _ => ?_))
      all_goals try rw [hmin]
      repeat' (first | with_reducible apply Stp.go | with_reducible refine imp fun _ => ?_ | (with_reducible refine hyp ?_ ?_; first | assumption | exact leftT_mem (by assumption)) | (with_reducible refine need ?_ ?_; first | trivial | omega | exact ⟨by assumption, by omega⟩ | (simp only [List.length_append, List.length_cons, List.length_nil, List.length_map, List.length_take, List.length_drop, List.length_replicate, List.length_set]; omega)) | (with_reducible refine fact ?_ ?_; first | trivial | exact ⟨rfl, rfl⟩ | kernel_rfl) | with_reducible refine choT (by assumption) ?_ | with_reducible refine choF (by assumption) ?_ | with_reducible refine choF' (by assumption) ?_ | (with_reducible refine altT ?_ ?_; first | omega | (simp only [List.length_append, List.length_cons, List.length_nil, List.length_map, List.length_take, List.length_drop, List.length_replicate, List.length_set]; omega)) | with_reducible refine altF ?_ | with_reducible refine all fun _ => ?_ | with_reducible refine both ?_ ?_ | (with_reducible refine choT ?_ ?_; omega) | (with_reducible refine choF ?_ ?_; omega) | with_reducible refine cho (fun _ => ?_) (fun _ => ?_))
      all_goals try rw [hmin]
      all_goals try rw [Bool.false_or]
      all_goals exact meet _ trivial (subS _)
    · intro b _
      repeat' (first | with_reducible apply Stp.go | with_reducible refine imp fun _ => ?_ | (with_reducible refine hyp ?_ ?_; first | assumption | exact leftT_mem (by assumption)) | (with_reducible refine need ?_ ?_; first | trivial | omega | exact ⟨by assumption, by omega⟩ | (simp only [List.length_append, List.length_cons, List.length_nil, List.length_map, List.length_take, List.length_drop, List.length_replicate, List.length_set]; omega)) | (with_reducible refine fact ?_ ?_; first | trivial | exact ⟨rfl, rfl⟩ | kernel_rfl) | with_reducible refine choT (by assumption) ?_ | with_reducible refine choF (by assumption) ?_ | with_reducible refine choF' (by assumption) ?_ | (with_reducible refine altT ?_ ?_; first | omega | (simp only [List.length_append, List.length_cons, List.length_nil, List.length_map, List.length_take, List.length_drop, List.length_replicate, List.length_set]; omega)) | with_reducible refine altF ?_ | with_reducible refine all fun _ => ?_ | with_reducible refine both ?_ ?_ | (with_reducible refine choT ?_ ?_; omega) | (with_reducible refine choF ?_ ?_; omega) | with_reducible refine cho (fun _ => ?_) (fun _ => ?_))
      refine joinE ?_
      repeat' (first | with_reducible apply Stp.go | with_reducible refine imp fun _ => ?_ | (with_reducible refine hyp ?_ ?_; first | assumption | exact leftT_mem (by assumption)) | (with_reducible refine need ?_ ?_; first | trivial | omega | exact ⟨by assumption, by omega⟩ | (simp only [List.length_append, List.length_cons, List.length_nil, List.length_map, List.length_take, List.length_drop, List.length_replicate, List.length_set]; omega)) | (with_reducible refine fact ?_ ?_; first | trivial | exact ⟨rfl, rfl⟩ | kernel_rfl) | with_reducible refine choT (by assumption) ?_ | with_reducible refine choF (by assumption) ?_ | with_reducible refine choF' (by assumption) ?_ | (with_reducible refine altT ?_ ?_; first | omega | (simp only [List.length_append, List.length_cons, List.length_nil, List.length_map, List.length_take, List.length_drop, List.length_replicate, List.length_set]; omega)) | with_reducible refine altF ?_ | with_reducible refine all fun _ => ?_ | with_reducible refine both ?_ ?_ | (with_reducible refine choT ?_ ?_; omega) | (with_reducible refine choF ?_ ?_; omega) | with_reducible refine cho (fun _ => ?_) (fun _ => ?_))
      all_goals try refine joinE ?_
      repeat' (first | with_reducible apply Stp.go | with_reducible refine imp fun _ => ?_ | (with_reducible refine hyp ?_ ?_; first | assumption | exact leftT_mem (by assumption)) | (with_reducible refine need ?_ ?_; first | trivial | omega | exact ⟨by assumption, by omega⟩ | (simp only [List.length_append, List.length_cons, List.length_nil, List.length_map, List.length_take, List.length_drop, List.length_replicate, List.length_set]; omega)) | (with_reducible refine fact ?_ ?_; first | trivial | exact ⟨rfl, rfl⟩ | kernel_rfl) | with_reducible refine choT (by assumption) ?_ | with_reducible refine choF (by assumption) ?_ | with_reducible refine choF' (by assumption) ?_ | (with_reducible refine altT ?_ ?_; first | omega | (simp only [List.length_append, List.length_cons, List.length_nil, List.length_map, List.length_take, List.length_drop, List.length_replicate, List.length_set]; omega)) | with_reducible refine altF ?_ | with_reducible refine all fun _ => ?_ | with_reducible refine both ?_ ?_ | (with_reducible refine choT ?_ ?_; omega) | (with_reducible refine choF ?_ ?_; omega) | with_reducible refine cho (fun _ => ?_) (fun _ => ?_))
      · rename_i hd hw
        exact ⟨_, _, _, rfl, Sub.app_nil _, p_fail (parse_fail1 hw), rfl⟩
      · rename_i hd hw hr
        exact ⟨_, _, _, rfl, Sub.app_nil _, p_done (by rw [parse_del h0 h1 hd hw, if_pos hr]), rfl⟩
      · rename_i hd hw hr
        exact ⟨_, _, _, rfl, Sub.app_nil _, p_done (by rw [parse_del h0 h1 hd hw, if_pos hr]), rfl⟩
      · rename_i hd hw hr
        exact ⟨_, _, _, rfl, Sub.app_nil _, p_fail (by rw [parse_del h0 h1 hd hw, if_neg hr]), rfl⟩
      · rename_i hd _ hw
        exact ⟨_, _, _, rfl, Sub.app_nil _, p_fail (parse_fail2 hd hw), rfl⟩
      · rename_i hd _ hw hr
        exact ⟨_, _, _, rfl, Sub.app_nil _, p_done (by rw [parse_val h0 h1 hd hw, if_pos hr]), rfl⟩
      · rename_i hd _ hw hr
        exact ⟨_, _, _, rfl, Sub.app_nil _, p_done (by rw [parse_val h0 h1 hd hw, if_pos hr]), rfl⟩
      · rename_i hd _ hw hr
        exact ⟨_, _, _, rfl, Sub.app_nil _, p_fail (by rw [parse_val h0 h1 hd hw, if_neg hr]), rfl⟩
instance {a : AV} {l : List UInt8} {m : SM} [h : IsL a byt 1 l m] : PC Go.Proofs.Try.prog 93 [a] (l.length ≤ 1000000000000000) (.tuple [(parseV l).av, I .i64 (parseN l : Nat), I .i64 (parseX l)]) := ⟨fun hl => ⟨[.lst 1 (l.map byt) m], ⟨h.sub, trivial⟩, entry_Parse_ok l m hl⟩⟩
end Go.Ab
