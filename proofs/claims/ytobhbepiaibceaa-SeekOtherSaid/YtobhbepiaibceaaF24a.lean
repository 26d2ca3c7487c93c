/- A place halved out. -/
import Derived.Test.YtobhbepiaibceaaF1
import Derived.Test.YtobhbepiaibceaaF2
import Derived.Test.YtobhbepiaibceaaF7
import Derived.Test.YtobhbepiaibceaaSp12
import Derived.Laws.Externs
set_option linter.unusedVariables false
set_option linter.unusedSimpArgs false
namespace Go.Ab
theorem cmpstring_ok (a b : List UInt8) : aPureC Go.Proofs.Try.prog 126 [S a, S b] (I .i64 (cmpK a b)) := by
  refine .inr ⟨[.string ⟨a.toArray⟩, .string ⟨b.toArray⟩], .int .i64 (cmpK a b), rfl, rfl, fun w => ?_⟩
  rw [run_callFunc_extern Go.Proofs.Try.func126 (by kernel_rfl) (by kernel_rfl) (by kernel_rfl) (e := Extern.BytealgCompare.compare) (by kernel_rfl)]
  rw [show ([Value.string ⟨a.toArray⟩, Value.string ⟨b.toArray⟩] : List Value).toArray = #[.string ⟨a.toArray⟩, .string ⟨b.toArray⟩] from rfl, Lib.run_compareString, compare_cmpK]
  rfl
instance (a b : List UInt8) : XC Go.Proofs.Try.prog 126 [S a, S b] (I .i64 (cmpK a b)) := ⟨cmpstring_ok a b⟩
def internal_bytealg_CompareString.mark : Mark := ⟨fun t => Nat.beq t 7, fun t => false, fun t => false, fun t => false, fun t => false⟩
def internal_bytealg_CompareString.ann : Ann := ⟨fun n => [], fun n => none, fun n => none⟩
/-- 'internal/bytealg.CompareString' -/
def internal_bytealg_CompareString.sh (a0 a1 : AV) (σ : Store) (Q : AEnd → Store → Prop) : Prop :=
  Do (aPureC Go.Proofs.Try.prog 126 [a0, a1]) fun t7 =>
  Q (.ret t7) σ
theorem internal_bytealg_CompareString.eq (a0 a1 : AV) (σ : Store) (Q : AEnd → Store → Prop) : vc (semOf Go.Proofs.Try.prog internal_bytealg_CompareString.mark) Go.Proofs.Try.f107.ntmps internal_bytealg_CompareString.ann (bodyOf Go.Proofs.Try.f107) (endK [.tmp 4] Q) (argFr [a0, a1]) σ = internal_bytealg_CompareString.sh a0 a1 σ Q := by kernel_rfl
theorem internal_bytealg_CompareString.go {a0 a1 : AV} {σ : Store} {Q : AEnd → Store → Prop} (h : internal_bytealg_CompareString.sh a0 a1 σ Q) : ACalls Go.Proofs.Try.prog 107 [a0, a1] σ Q :=
  acalls_of_eq [.tmp 4] Go.Proofs.Try.func107 (by kernel_rfl) (by kernel_rfl) (by kernel_rfl) (by kernel_rfl) (internal_bytealg_CompareString.eq a0 a1 σ Q) h
def strings_Compare.mark : Mark := ⟨fun t => Nat.beq t 7, fun t => false, fun t => false, fun t => false, fun t => false⟩
def strings_Compare.ann : Ann := ⟨fun n => [], fun n => none, fun n => none⟩
/-- 'strings.Compare' -/
def strings_Compare.sh (a0 a1 : AV) (σ : Store) (Q : AEnd → Store → Prop) : Prop :=
  Do (aPureC Go.Proofs.Try.prog 107 [a0, a1]) fun t7 =>
  Q (.ret t7) σ
theorem strings_Compare.eq (a0 a1 : AV) (σ : Store) (Q : AEnd → Store → Prop) : vc (semOf Go.Proofs.Try.prog strings_Compare.mark) Go.Proofs.Try.f85.ntmps strings_Compare.ann (bodyOf Go.Proofs.Try.f85) (endK [.tmp 4] Q) (argFr [a0, a1]) σ = strings_Compare.sh a0 a1 σ Q := by kernel_rfl
theorem strings_Compare.go {a0 a1 : AV} {σ : Store} {Q : AEnd → Store → Prop} (h : strings_Compare.sh a0 a1 σ Q) : ACalls Go.Proofs.Try.prog 85 [a0, a1] σ Q :=
  acalls_of_eq [.tmp 4] Go.Proofs.Try.func85 (by kernel_rfl) (by kernel_rfl) (by kernel_rfl) (by kernel_rfl) (strings_Compare.eq a0 a1 σ Q) h
def slices_BinarySearchFunc.mark : Mark := ⟨fun t => Nat.beq t 30 || Nat.beq t 46, fun t => false, fun t => false, fun t => Nat.beq t 28 || Nat.beq t 44, fun t => false⟩
def slices_BinarySearchFunc.ann : Ann := ⟨fun n => bif Nat.beq n 3 then [0, 1, 2, 8, 9, 10] else [], fun n => none, fun n => none⟩
/-- 'slices.BinarySearchFunc[[]marlstone/api.Entry,marlstone/api.Entry,string]' -/
def slices_BinarySearchFunc.sh (a0 a1 a2 : AV) (σ : Store) (Q : AEnd → Store → Prop) : Prop :=
  Do (aBuiltin Go.Proofs.Try.prog .len #[22] [a0]) fun t13 =>
  aLoop (fun go vs σ =>
    At vs 0 fun s0 => At vs 1 fun s1 => At vs 2 fun s2 => At vs 3 fun s8 => At vs 4 fun s9 => At vs 5 fun s10 => Do (aBin Go.Proofs.Try.prog .lss 3 s9 s10) fun t17 =>
    aCond t17
      (Do (aBin Go.Proofs.Try.prog .add 3 s9 s10) fun t20 =>
    Do (fun x => aConvN 3 149 t20 x Go.Proofs.Try.prog) fun t21 =>
    Do (aBin Go.Proofs.Try.prog .shr 149 t21 (W64 1)) fun t22 =>
    Do (fun x => aConvN 149 3 t22 x Go.Proofs.Try.prog) fun t23 =>
    Do (aIndexAddr .slice 4 s0 t23) fun t27 =>
    Do (loadF true 4 t27) fun t28 =>
    Do (aPureV Go.Proofs.Try.prog s2 [t28, s1]) fun t30 =>
    Do (aBin Go.Proofs.Try.prog .lss 3 t30 (.val (.int .i64 0))) fun t31 =>
    aCond t31
      (Do (aBin Go.Proofs.Try.prog .add 3 t23 (.val (.int .i64 1))) fun t33 =>
      go [s0, s1, s2, s8, t33, s10] σ)
      (go [s0, s1, s2, s8, s9, t23] σ))
      (Do (aBin Go.Proofs.Try.prog .lss 3 s9 s8) fun t38 =>
  Do (aGuard t38 true (aIs s2)) fun t40 =>
  Do (aGuard t38 true (aIs s0)) fun t41 =>
  Do (aGuard t38 true (aIs s9)) fun t42 =>
  Do (aGuard t38 true (aIndexAddr .slice 4 t41 t42)) fun t43 =>
  Do (aGuard t38 true (loadF true 4 t43)) fun t44 =>
  Do (aGuard t38 true (aIs s1)) fun t45 =>
  Do (aGuard t38 true (aPureV Go.Proofs.Try.prog t40 [t44, t45])) fun t46 =>
  Do (aGuard t38 true (aBin Go.Proofs.Try.prog .eql 3 t46 (.val (.int .i64 0)))) fun t47 =>
  Do (aPick t38 t47 (.val (.bool false))) fun t48 =>
  Q (.ret (.tuple [s9, t48])) σ))
    [a0, a1, a2, t13, (.val (.int .i64 0)), t13] σ
theorem slices_BinarySearchFunc.eq (a0 a1 a2 : AV) (σ : Store) (Q : AEnd → Store → Prop) : vc (semOf Go.Proofs.Try.prog slices_BinarySearchFunc.mark) Go.Proofs.Try.f83.ntmps slices_BinarySearchFunc.ann (bodyOf Go.Proofs.Try.f83) (endK [.tmp 6, .tmp 7] Q) (argFr [a0, a1, a2]) σ = slices_BinarySearchFunc.sh a0 a1 a2 σ Q := by kernel_rfl
theorem slices_BinarySearchFunc.go {a0 a1 a2 : AV} {σ : Store} {Q : AEnd → Store → Prop} (h : slices_BinarySearchFunc.sh a0 a1 a2 σ Q) : ACalls Go.Proofs.Try.prog 83 [a0, a1, a2] σ Q :=
  acalls_of_eq [.tmp 6, .tmp 7] Go.Proofs.Try.func83 (by kernel_rfl) (by kernel_rfl) (by kernel_rfl) (by kernel_rfl) (slices_BinarySearchFunc.eq a0 a1 a2 σ Q) h
theorem CompareString_ok (a b : List UInt8) : aPure Go.Proofs.Try.prog 107 [S a, S b] (I .i64 (cmpK a b)) := by
  refine internal_bytealg_CompareString.go ?_
  unfold internal_bytealg_CompareString.sh
  repeat' (first | with_reducible apply Stp.go | with_reducible refine imp fun _ => ?_ | (with_reducible refine hyp ?_ ?_; first | assumption | exact leftT_mem (by assumption)) | (with_reducible refine need ?_ ?_; first | trivial | omega | exact ⟨by assumption, by omega⟩ | (simp only [List.length_append, List.length_cons, List.length_nil, List.length_map, List.length_take, List.length_drop, List.length_replicate, List.length_set]; omega)) | (with_reducible refine fact ?_ ?_; first | trivial | exact ⟨rfl, rfl⟩ | kernel_rfl) | with_reducible refine choT (by assumption) ?_ | with_reducible refine choF (by assumption) ?_ | with_reducible refine choF' (by assumption) ?_ | (with_reducible refine altT ?_ ?_; first | omega | (simp only [List.length_append, List.length_cons, List.length_nil, List.length_map, List.length_take, List.length_drop, List.length_replicate, List.length_set]; omega)) | with_reducible refine altF ?_ | with_reducible refine all fun _ => ?_ | with_reducible refine both ?_ ?_ | (with_reducible refine choT ?_ ?_; omega) | (with_reducible refine choF ?_ ?_; omega) | with_reducible refine cho (fun _ => ?_) (fun _ => ?_))
  exact ⟨rfl, rfl⟩
instance (a b : List UInt8) : PC Go.Proofs.Try.prog 107 [S a, S b] True (I .i64 (cmpK a b)) := ⟨fun _ => PC.of (CompareString_ok a b)⟩
theorem strings_Compare_ok (a b : List UInt8) : aPure Go.Proofs.Try.prog 85 [S a, S b] (I .i64 (cmpK a b)) := by
  refine strings_Compare.go ?_
  unfold strings_Compare.sh
  repeat' (first | with_reducible apply Stp.go | with_reducible refine imp fun _ => ?_ | (with_reducible refine hyp ?_ ?_; first | assumption | exact leftT_mem (by assumption)) | (with_reducible refine need ?_ ?_; first | trivial | omega | exact ⟨by assumption, by omega⟩ | (simp only [List.length_append, List.length_cons, List.length_nil, List.length_map, List.length_take, List.length_drop, List.length_replicate, List.length_set]; omega)) | (with_reducible refine fact ?_ ?_; first | trivial | exact ⟨rfl, rfl⟩ | kernel_rfl) | with_reducible refine choT (by assumption) ?_ | with_reducible refine choF (by assumption) ?_ | with_reducible refine choF' (by assumption) ?_ | (with_reducible refine altT ?_ ?_; first | omega | (simp only [List.length_append, List.length_cons, List.length_nil, List.length_map, List.length_take, List.length_drop, List.length_replicate, List.length_set]; omega)) | with_reducible refine altF ?_ | with_reducible refine all fun _ => ?_ | with_reducible refine both ?_ ?_ | (with_reducible refine choT ?_ ?_; omega) | (with_reducible refine choF ?_ ?_; omega) | with_reducible refine cho (fun _ => ?_) (fun _ => ?_))
  exact ⟨rfl, rfl⟩
instance (a b : List UInt8) : PC Go.Proofs.Try.prog 85 [S a, S b] True (I .i64 (cmpK a b)) := ⟨fun _ => PC.of (strings_Compare_ok a b)⟩
theorem half_ok {n : Nat} (h : n < 18446744073709551616) : (UInt64.ofNat n >>> UInt64.ofNat 1).toNat = n / 2 := by
  rw [UInt64.toNat_shiftRight, u64_len h]
  simp [Nat.shiftRight_eq_div_pow]
theorem Search_ok (l : List En) (m : SM) (k : List UInt8) (g : FuncId) (hg : ∀ e : En, aPure Go.Proofs.Try.prog g [e.av, S k] (I .i64 (cmpK e.key k))) (hr : Rises l) (hl : l.length ≤ 1000000000000) :
    aPure Go.Proofs.Try.prog 83 [.lst 4 (l.map En.av) m, S k, .val (.func (.func g) #[] #[])] (.tuple [I .i64 (placeN l k : Nat), B (hasK l k)]) := by
  have inst : ∀ e : En, PC Go.Proofs.Try.prog g [e.av, S k] True (I .i64 (cmpK e.key k)) := fun e => ⟨fun _ => PC.of (hg e)⟩
  refine slices_BinarySearchFunc.go ?_
  unfold slices_BinarySearchFunc.sh
  have hp := placeN_le l k
  repeat' (first | with_reducible apply Stp.go | with_reducible refine imp fun _ => ?_ | (with_reducible refine hyp ?_ ?_; first | assumption | exact leftT_mem (by assumption)) | (with_reducible refine need ?_ ?_; first | trivial | omega | exact ⟨by assumption, by omega⟩ | (simp only [List.length_append, List.length_cons, List.length_nil, List.length_map, List.length_take, List.length_drop, List.length_replicate, List.length_set]; omega)) | (with_reducible refine fact ?_ ?_; first | trivial | exact ⟨rfl, rfl⟩ | kernel_rfl) | with_reducible refine choT (by assumption) ?_ | with_reducible refine choF (by assumption) ?_ | with_reducible refine choF' (by assumption) ?_ | (with_reducible refine altT ?_ ?_; first | omega | (simp only [List.length_append, List.length_cons, List.length_nil, List.length_map, List.length_take, List.length_drop, List.length_replicate, List.length_set]; omega)) | with_reducible refine altF ?_ | with_reducible refine all fun _ => ?_ | with_reducible refine both ?_ ?_ | (with_reducible refine choT ?_ ?_; omega) | (with_reducible refine choF ?_ ?_; omega) | with_reducible refine cho (fun _ => ?_) (fun _ => ?_))
  refine loopI (β := Nat × Nat) (fun x => x.1 ≤ placeN l k ∧ placeN l k ≤ x.2 ∧ x.2 ≤ l.length) (fun x => [.lst 4 (l.map En.av) m, S k, .val (.func (.func g) #[] #[]), I .i64 (l.length : Nat), I .i64 (x.1 : Nat), I .i64 (x.2 : Nat)]) (fun _ => []) (fun x => x.2 - x.1) (0, l.length) ⟨Nat.zero_le _, hp, Nat.le_refl _⟩ (Sub.refl _ _) ?_
  rintro ⟨i, j⟩ ⟨h1, h2, h3⟩
  dsimp only at h1 h2 h3 ⊢
  have hh := half_ok (n := i + j) (by omega)
  repeat' (first | with_reducible apply Stp.go | with_reducible refine imp fun _ => ?_ | (with_reducible refine hyp ?_ ?_; first | assumption | exact leftT_mem (by assumption)) | (with_reducible refine need ?_ ?_; first | trivial | omega | exact ⟨by assumption, by omega⟩ | (simp only [List.length_append, List.length_cons, List.length_nil, List.length_map, List.length_take, List.length_drop, List.length_replicate, List.length_set]; omega)) | (with_reducible refine fact ?_ ?_; first | trivial | exact ⟨rfl, rfl⟩ | kernel_rfl) | with_reducible refine choT (by assumption) ?_ | with_reducible refine choF (by assumption) ?_ | with_reducible refine choF' (by assumption) ?_ | (with_reducible refine altT ?_ ?_; first | omega | (simp only [List.length_append, List.length_cons, List.length_nil, List.length_map, List.length_take, List.length_drop, List.length_replicate, List.length_set]; omega)) | with_reducible refine altF ?_ | with_reducible refine all fun _ => ?_ | with_reducible refine both ?_ ?_ | (with_reducible refine choT ?_ ?_; omega) | (with_reducible refine choF ?_ ?_; omega) | with_reducible refine cho (fun _ => ?_) (fun _ => ?_))
  · rename_i h4 h5
    rw [hh] at h5 ⊢
    rw [cmpK_lt, place_at hr k (by omega)] at h5
    exact again ((i + j) / 2 + 1, j) (by dsimp only; omega) ⟨by dsimp only; omega, h2, h3⟩ (Sub.refl _ _)
  · rename_i h4 h5
    rw [hh] at h5 ⊢
    rw [cmpK_lt, place_at hr k (by omega)] at h5
    exact again (i, (i + j) / 2) (by dsimp only; omega) ⟨h1, by dsimp only; omega, by dsimp only; omega⟩ (Sub.refl _ _)
  · rename_i h4 h5
    have e : i = placeN l k := by omega
    subst e
    have e2 : decide (cmpK (l.getD (placeN l k) default).key k = 0) = hasK l k := by
      rw [has_place hr k, decide_eq_true h5, Bool.true_and]
      simp only [cmpK_zero]
    rw [e2]
    exact ⟨rfl, rfl⟩
  · rename_i h4 h5
    have e : i = placeN l k := by omega
    have e2 : hasK l k = false := by rw [has_place hr k, decide_eq_false (by omega), Bool.false_and]
    rw [e, e2]
    exact ⟨rfl, rfl⟩
end Go.Ab
