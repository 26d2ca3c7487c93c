/- The texts that this claim needs, part 10: a logic over abstract values, its steps, what the functions do. No condition of its own. -/
import Derived.Laws.Externs
import Derived.Test.YtfbdncmmnelklaaTableParsesK9
/- A place halved out. -/
set_option linter.unusedVariables false
set_option linter.unusedSimpArgs false
namespace Go.Ab
theorem cmpstring_ok (a b : List UInt8) : aPureC Go.Proofs.Try.prog 94 [S a, S b] (I .i64 (cmpK a b)) := by
  refine .inr ⟨[.string ⟨a.toArray⟩, .string ⟨b.toArray⟩], .int .i64 (cmpK a b), rfl, rfl, fun w => ?_⟩
  rw [run_callFunc_extern Go.Proofs.Try.func94 (by kernel_rfl) (by kernel_rfl) (by kernel_rfl) (e := Extern.BytealgCompare.compare) (by kernel_rfl)]
  rw [show ([Value.string ⟨a.toArray⟩, Value.string ⟨b.toArray⟩] : List Value).toArray = #[.string ⟨a.toArray⟩, .string ⟨b.toArray⟩] from rfl, Lib.run_compareString, compare_cmpK]
  rfl
instance (a b : List UInt8) : XC Go.Proofs.Try.prog 94 [S a, S b] (I .i64 (cmpK a b)) := ⟨cmpstring_ok a b⟩
def internal_bytealg_CompareString.mark : Mark := ⟨fun t => Nat.beq t 7, fun t => false, fun t => false, fun t => false, fun t => false⟩
def internal_bytealg_CompareString.ann : Ann := ⟨fun n => [], fun n => none, fun n => none⟩
/-- 'internal/bytealg.CompareString' -/
def internal_bytealg_CompareString.sh (a0 a1 : AV) (σ : Store) (Q : AEnd → Store → Prop) : Prop :=
  Do (aPureC Go.Proofs.Try.prog 94 [a0, a1]) fun t7 =>
  Q (.ret t7) σ
theorem internal_bytealg_CompareString.eq (a0 a1 : AV) (σ : Store) (Q : AEnd → Store → Prop) : vc (semOf Go.Proofs.Try.prog internal_bytealg_CompareString.mark) Go.Proofs.Try.f81.ntmps internal_bytealg_CompareString.ann (bodyOf Go.Proofs.Try.f81) (endK [.tmp 4] Q) (argFr [a0, a1]) σ = internal_bytealg_CompareString.sh a0 a1 σ Q := by kernel_rfl
theorem internal_bytealg_CompareString.go {a0 a1 : AV} {σ : Store} {Q : AEnd → Store → Prop} (h : internal_bytealg_CompareString.sh a0 a1 σ Q) : ACalls Go.Proofs.Try.prog 81 [a0, a1] σ Q :=
  acalls_of_eq [.tmp 4] Go.Proofs.Try.func81 (by kernel_rfl) (by kernel_rfl) (by kernel_rfl) (by kernel_rfl) (internal_bytealg_CompareString.eq a0 a1 σ Q) h
def strings_Compare.mark : Mark := ⟨fun t => Nat.beq t 7, fun t => false, fun t => false, fun t => false, fun t => false⟩
def strings_Compare.ann : Ann := ⟨fun n => [], fun n => none, fun n => none⟩
/-- 'strings.Compare' -/
def strings_Compare.sh (a0 a1 : AV) (σ : Store) (Q : AEnd → Store → Prop) : Prop :=
  Do (aPureC Go.Proofs.Try.prog 81 [a0, a1]) fun t7 =>
  Q (.ret t7) σ
theorem strings_Compare.eq (a0 a1 : AV) (σ : Store) (Q : AEnd → Store → Prop) : vc (semOf Go.Proofs.Try.prog strings_Compare.mark) Go.Proofs.Try.f56.ntmps strings_Compare.ann (bodyOf Go.Proofs.Try.f56) (endK [.tmp 4] Q) (argFr [a0, a1]) σ = strings_Compare.sh a0 a1 σ Q := by kernel_rfl
theorem strings_Compare.go {a0 a1 : AV} {σ : Store} {Q : AEnd → Store → Prop} (h : strings_Compare.sh a0 a1 σ Q) : ACalls Go.Proofs.Try.prog 56 [a0, a1] σ Q :=
  acalls_of_eq [.tmp 4] Go.Proofs.Try.func56 (by kernel_rfl) (by kernel_rfl) (by kernel_rfl) (by kernel_rfl) (strings_Compare.eq a0 a1 σ Q) h
def slices_BinarySearchFunc.mark : Mark := ⟨fun t => Nat.beq t 30 || Nat.beq t 46, fun t => false, fun t => false, fun t => Nat.beq t 28 || Nat.beq t 44, fun t => false⟩
def slices_BinarySearchFunc.ann : Ann := ⟨fun n => bif Nat.beq n 3 then [0, 1, 2, 8, 9, 10] else [], fun n => none, fun n => none⟩
/-- 'slices.BinarySearchFunc[[]marlstone/api.Entry,marlstone/api.Entry,string]' -/
def slices_BinarySearchFunc.sh (a0 a1 a2 : AV) (σ : Store) (Q : AEnd → Store → Prop) : Prop :=
  Do (aBuiltin Go.Proofs.Try.prog .len #[22] [a0]) fun t13 =>
  aLoop (fun go vs σ =>
    At vs 0 fun s0 => At vs 1 fun s1 => At vs 2 fun s2 => At vs 3 fun s8 => At vs 4 fun s9 => At vs 5 fun s10 => Do (aBin Go.Proofs.Try.prog .lss 3 s9 s10) fun t17 =>
    aCond t17
      (Do (aBin Go.Proofs.Try.prog .add 3 s9 s10) fun t20 =>
    Do (fun x => aConvN 3 103 t20 x Go.Proofs.Try.prog) fun t21 =>
    Do (aBin Go.Proofs.Try.prog .shr 103 t21 (W64 1)) fun t22 =>
    Do (fun x => aConvN 103 3 t22 x Go.Proofs.Try.prog) fun t23 =>
    Do (aIndexAddr .slice 4 s0 t23) fun t27 =>
    Do (loadF true 4 t27) fun t28 =>
    Do (aPureV Go.Proofs.Try.prog s2 [t28, s1]) fun t30 =>
    Do (aBin Go.Proofs.Try.prog .lss 3 t30 (.val (.int .i64 0))) fun t31 =>
    aCond t31
      (Do (aBin Go.Proofs.Try.prog .add 3 t23 (.val (.int .i64 1))) fun t33 =>
      go [s0, s1, s2, s8, t33, s10] σ)
      (go [s0, s1, s2, s8, s9, t23] σ))
      (Do (aBin Go.Proofs.Try.prog .lss 3 s9 s8) fun t38 =>
  Do (aGuard t38 true (aIs s2)) fun t40 =>
  Do (aGuard t38 true (aIs s0)) fun t41 =>
  Do (aGuard t38 true (aIs s9)) fun t42 =>
  Do (aGuard t38 true (aIndexAddr .slice 4 t41 t42)) fun t43 =>
  Do (aGuard t38 true (loadF true 4 t43)) fun t44 =>
  Do (aGuard t38 true (aIs s1)) fun t45 =>
  Do (aGuard t38 true (aPureV Go.Proofs.Try.prog t40 [t44, t45])) fun t46 =>
  Do (aGuard t38 true (aBin Go.Proofs.Try.prog .eql 3 t46 (.val (.int .i64 0)))) fun t47 =>
  Do (aPick t38 t47 (.val (.bool false))) fun t48 =>
  Q (.ret (.tuple [s9, t48])) σ))
    [a0, a1, a2, t13, (.val (.int .i64 0)), t13] σ
theorem slices_BinarySearchFunc.eq (a0 a1 a2 : AV) (σ : Store) (Q : AEnd → Store → Prop) : vc (semOf Go.Proofs.Try.prog slices_BinarySearchFunc.mark) Go.Proofs.Try.f54.ntmps slices_BinarySearchFunc.ann (bodyOf Go.Proofs.Try.f54) (endK [.tmp 6, .tmp 7] Q) (argFr [a0, a1, a2]) σ = slices_BinarySearchFunc.sh a0 a1 a2 σ Q := by kernel_rfl
theorem slices_BinarySearchFunc.go {a0 a1 a2 : AV} {σ : Store} {Q : AEnd → Store → Prop} (h : slices_BinarySearchFunc.sh a0 a1 a2 σ Q) : ACalls Go.Proofs.Try.prog 54 [a0, a1, a2] σ Q :=
  acalls_of_eq [.tmp 6, .tmp 7] Go.Proofs.Try.func54 (by kernel_rfl) (by kernel_rfl) (by kernel_rfl) (by kernel_rfl) (slices_BinarySearchFunc.eq a0 a1 a2 σ Q) h
theorem CompareString_ok (a b : List UInt8) : aPure Go.Proofs.Try.prog 81 [S a, S b] (I .i64 (cmpK a b)) := by
  refine internal_bytealg_CompareString.go ?_
  unfold internal_bytealg_CompareString.sh
  repeat' (first | with_reducible apply Stp.go | with_reducible refine imp fun _ => ?_ | (with_reducible refine hyp ?_ ?_; first | assumption | exact leftT_mem (by assumption)) | (with_reducible refine need ?_ ?_; first | trivial | omega | exact ⟨by assumption, by omega⟩ | (simp only [List.length_append, List.length_cons, List.length_nil, List.length_map, List.length_take, List.length_drop, List.length_replicate, List.length_set]; omega)) | (with_reducible refine fact ?_ ?_; first | trivial | exact ⟨rfl, rfl⟩ | kernel_rfl) | with_reducible refine choT (by assumption) ?_ | with_reducible refine choF (by assumption) ?_ | with_reducible refine choF' (by assumption) ?_ | (with_reducible refine altT ?_ ?_; first | omega | (simp only [List.length_append, List.length_cons, List.length_nil, List.length_map, List.length_take, List.length_drop, List.length_replicate, List.length_set]; omega)) | with_reducible refine altF ?_ | with_reducible refine all fun _ => ?_ | with_reducible refine both ?_ ?_ | (with_reducible refine choT ?_ ?_; omega) | (with_reducible refine choF ?_ ?_; omega) | with_reducible refine cho (fun _ => ?_) (fun _ => ?_))
  exact ⟨rfl, rfl⟩
instance (a b : List UInt8) : PC Go.Proofs.Try.prog 81 [S a, S b] True (I .i64 (cmpK a b)) := ⟨fun _ => PC.of (CompareString_ok a b)⟩
theorem strings_Compare_ok (a b : List UInt8) : aPure Go.Proofs.Try.prog 56 [S a, S b] (I .i64 (cmpK a b)) := by
  refine strings_Compare.go ?_
  unfold strings_Compare.sh
  repeat' (first | with_reducible apply Stp.go | with_reducible refine imp fun _ => ?_ | (with_reducible refine hyp ?_ ?_; first | assumption | exact leftT_mem (by assumption)) | (with_reducible refine need ?_ ?_; first | trivial | omega | exact ⟨by assumption, by omega⟩ | (simp only [List.length_append, List.length_cons, List.length_nil, List.length_map, List.length_take, List.length_drop, List.length_replicate, List.length_set]; omega)) | (with_reducible refine fact ?_ ?_; first | trivial | exact ⟨rfl, rfl⟩ | kernel_rfl) | with_reducible refine choT (by assumption) ?_ | with_reducible refine choF (by assumption) ?_ | with_reducible refine choF' (by assumption) ?_ | (with_reducible refine altT ?_ ?_; first | omega | (simp only [List.length_append, List.length_cons, List.length_nil, List.length_map, List.length_take, List.length_drop, List.length_replicate, List.length_set]; omega)) | with_reducible refine altF ?_ | with_reducible refine all fun _ => ?_ | with_reducible refine both ?_ ?_ | (with_reducible refine choT ?_ ?_; omega) | (with_reducible refine choF ?_ ?_; omega) | with_reducible refine cho (fun _ => ?_) (fun _ => ?_))
  exact ⟨rfl, rfl⟩
instance (a b : List UInt8) : PC Go.Proofs.Try.prog 56 [S a, S b] True (I .i64 (cmpK a b)) := ⟨fun _ => PC.of (strings_Compare_ok a b)⟩
theorem half_ok {n : Nat} (h : n < 18446744073709551616) : (UInt64.ofNat n >>> UInt64.ofNat 1).toNat = n / 2 := by
  rw [UInt64.toNat_shiftRight, u64_len h]
  simp [Nat.shiftRight_eq_div_pow]
theorem Search_ok (l : List En) (m : SM) (k : List UInt8) (g : FuncId) (hg : ∀ e : En, aPure Go.Proofs.Try.prog g [e.av, S k] (I .i64 (cmpK e.key k))) (hr : Rises l) (hl : l.length ≤ 1000000000000) :
    aPure Go.Proofs.Try.prog 54 [.lst 4 (l.map En.av) m, S k, .val (.func (.func g) #[] #[])] (.tuple [I .i64 (placeN l k : Nat), B (hasK l k)]) := by
  have inst : ∀ e : En, PC Go.Proofs.Try.prog g [e.av, S k] True (I .i64 (cmpK e.key k)) := fun e => ⟨fun _ => PC.of (hg e)⟩
  refine slices_BinarySearchFunc.go ?_
  unfold slices_BinarySearchFunc.sh
  have hp := placeN_le l k
  repeat' (first | with_reducible apply Stp.go | with_reducible refine imp fun _ => ?_ | (with_reducible refine hyp ?_ ?_; first | assumption | exact leftT_mem (by assumption)) | (with_reducible refine need ?_ ?_; first | trivial | omega | exact ⟨by assumption, by omega⟩ | (simp only [List.length_append, List.length_cons, List.length_nil, List.length_map, List.length_take, List.length_drop, List.length_replicate, List.length_set]; omega)) | (with_reducible refine fact ?_ ?_; first | trivial | exact ⟨rfl, rfl⟩ | kernel_rfl) | with_reducible refine choT (by assumption) ?_ | with_reducible refine choF (by assumption) ?_ | with_reducible refine choF' (by assumption) ?_ | (with_reducible refine altT ?_ ?_; first | omega | (simp only [List.length_append, List.length_cons, List.length_nil, List.length_map, List.length_take, List.length_drop, List.length_replicate, List.length_set]; omega)) | with_reducible refine altF ?_ | with_reducible refine all fun _ => ?_ | with_reducible refine both ?_ ?_ | (with_reducible refine choT ?_ ?_; omega) | (with_reducible refine choF ?_ ?_; omega) | with_reducible refine cho (fun _ => ?_) (fun _ => ?_))
  refine loopI (β := Nat × Nat) (fun x => x.1 ≤ placeN l k ∧ placeN l k ≤ x.2 ∧ x.2 ≤ l.length) (fun x => [.lst 4 (l.map En.av) m, S k, .val (.func (.func g) #[] #[]), I .i64 (l.length : Nat), I .i64 (x.1 : Nat), I .i64 (x.2 : Nat)]) (fun _ => []) (fun x => x.2 - x.1) (0, l.length) ⟨Nat.zero_le _, hp, Nat.le_refl _⟩ (Sub.refl _ _) ?_
  rintro ⟨i, j⟩ ⟨h1, h2, h3⟩
  dsimp only at h1 h2 h3 ⊢
  have hh := half_ok (n := i + j) (by omega)
  repeat' (first | with_reducible apply Stp.go | with_reducible refine imp fun _ => ?_ | (with_reducible refine hyp ?_ ?_; first | assumption | exact leftT_mem (by assumption)) | (with_reducible refine need ?_ ?_; first | trivial | omega | exact ⟨by assumption, by omega⟩ | (simp only [List.length_append, List.length_cons, List.length_nil, List.length_map, List.length_take, List.length_drop, List.length_replicate, List.length_set]; omega)) | (with_reducible refine fact ?_ ?_; first | trivial | exact ⟨rfl, rfl⟩ | kernel_rfl) | with_reducible refine choT (by assumption) ?_ | with_reducible refine choF (by assumption) ?_ | with_reducible refine choF' (by assumption) ?_ | (with_reducible refine altT ?_ ?_; first | omega | (simp only [List.length_append, List.length_cons, List.length_nil, List.length_map, List.length_take, List.length_drop, List.length_replicate, List.length_set]; omega)) | with_reducible refine altF ?_ | with_reducible refine all fun _ => ?_ | with_reducible refine both ?_ ?_ | (with_reducible refine choT ?_ ?_; omega) | (with_reducible refine choF ?_ ?_; omega) | with_reducible refine cho (fun _ => ?_) (fun _ => ?_))
  · rename_i h4 h5
    rw [hh] at h5 ⊢
    rw [cmpK_lt, place_at hr k (by omega)] at h5
    exact again ((i + j) / 2 + 1, j) (by dsimp only; omega) ⟨by dsimp only; omega, h2, h3⟩ (Sub.refl _ _)
  · rename_i h4 h5
    rw [hh] at h5 ⊢
    rw [cmpK_lt, place_at hr k (by omega)] at h5
    exact again (i, (i + j) / 2) (by dsimp only; omega) ⟨h1, by dsimp only; omega, by dsimp only; omega⟩ (Sub.refl _ _)
  · rename_i h4 h5
    have e : i = placeN l k := by omega
    subst e
    have e2 : decide (cmpK (l.getD (placeN l k) default).key k = 0) = hasK l k := by
      rw [has_place hr k, decide_eq_true h5, Bool.true_and]
      simp only [cmpK_zero]
    rw [e2]
    exact ⟨rfl, rfl⟩
  · rename_i h4 h5
    have e : i = placeN l k := by omega
    have e2 : hasK l k = false := by rw [has_place hr k, decide_eq_false (by omega), Bool.false_and]
    rw [e, e2]
    exact ⟨rfl, rfl⟩
end Go.Ab

/- table.Get; TableBack. -/
set_option linter.unusedVariables false
set_option linter.unusedSimpArgs false
namespace Go.Ab
theorem tblV_rises (b : List UInt8) : Rises (tblV b) := by
  unfold tblV
  cases h : tblG b with
  | none => exact List.Pairwise.nil
  | some l => exact (sorted_iff l).1 (fit_right (tblG_fit h).1).2.2.1
theorem tblX_two (b : List UInt8) (h : ¬ tblX b = 0) : tblX b = 2 ∧ tblV b = [] := by
  unfold tblX tblV at *
  cases hG : tblG b with
  | none => exact ⟨rfl, rfl⟩
  | some l => rw [hG] at h; exact absurd rfl h
def table_Get_1.mark : Mark := ⟨fun t => Nat.beq t 8, fun t => false, fun t => Nat.beq t 2, fun t => Nat.beq t 6, fun t => false⟩
def table_Get_1.ann : Ann := ⟨fun n => [], fun n => none, fun n => none⟩
/-- 'marlstone/table.Get$1' -/
def table_Get_1.sh (a0 a1 : AV) (σ : Store) (Q : AEnd → Store → Prop) : Prop :=
  Do (aFreeze ((a0 : AV)).cells) fun t2 =>
  Do (aFieldAddr 0 1 t2) fun t5 =>
  Do (loadF false 1 t5) fun t6 =>
  Do (aPureC Go.Proofs.Try.prog 56 [t6, a1]) fun t8 =>
  Q (.ret t8) σ
theorem table_Get_1.eq (a0 a1 : AV) (σ : Store) (Q : AEnd → Store → Prop) : vc (semOf Go.Proofs.Try.prog table_Get_1.mark) Go.Proofs.Try.f55.ntmps table_Get_1.ann (bodyOf Go.Proofs.Try.f55) (endK [.tmp 4] Q) (argFr [a0, a1]) σ = table_Get_1.sh a0 a1 σ Q := by kernel_rfl
theorem table_Get_1.go {a0 a1 : AV} {σ : Store} {Q : AEnd → Store → Prop} (h : table_Get_1.sh a0 a1 σ Q) : ACalls Go.Proofs.Try.prog 55 [a0, a1] σ Q :=
  acalls_of_eq [.tmp 4] Go.Proofs.Try.func55 (by kernel_rfl) (by kernel_rfl) (by kernel_rfl) (by kernel_rfl) (table_Get_1.eq a0 a1 σ Q) h
theorem Get1_ok (e : En) (k : List UInt8) : aPure Go.Proofs.Try.prog 55 [e.av, S k] (I .i64 (cmpK e.key k)) := by
  refine table_Get_1.go ?_
  unfold table_Get_1.sh
  repeat' (first | with_reducible apply Stp.go | with_reducible refine imp fun _ => ?_ | (with_reducible refine hyp ?_ ?_; first | assumption | exact leftT_mem (by assumption)) | (with_reducible refine need ?_ ?_; first | trivial | omega | exact ⟨by assumption, by omega⟩ | (simp only [List.length_append, List.length_cons, List.length_nil, List.length_map, List.length_take, List.length_drop, List.length_replicate, List.length_set]; omega)) | (with_reducible refine fact ?_ ?_; first | trivial | exact ⟨rfl, rfl⟩ | kernel_rfl) | with_reducible refine choT (by assumption) ?_ | with_reducible refine choF (by assumption) ?_ | with_reducible refine choF' (by assumption) ?_ | (with_reducible refine altT ?_ ?_; first | omega | (simp only [List.length_append, List.length_cons, List.length_nil, List.length_map, List.length_take, List.length_drop, List.length_replicate, List.length_set]; omega)) | with_reducible refine altF ?_ | with_reducible refine all fun _ => ?_ | with_reducible refine both ?_ ?_ | (with_reducible refine choT ?_ ?_; omega) | (with_reducible refine choF ?_ ?_; omega) | with_reducible refine cho (fun _ => ?_) (fun _ => ?_))
  exact ⟨rfl, rfl⟩
def table_Get.mark : Mark := ⟨fun t => Nat.beq t 13 || Nat.beq t 23, fun t => false, fun t => false, fun t => Nat.beq t 32, fun t => false⟩
def table_Get.ann : Ann := ⟨fun n => [], fun n => none, fun n => none⟩
/-- 'marlstone/table.Get' -/
def table_Get.sh (a0 a1 : AV) (σ : Store) (Q : AEnd → Store → Prop) : Prop :=
  aNewVar 52 [.val (.string ⟨#[]⟩), .val (.string ⟨#[]⟩), .val (.bool false), .val (.int .i64 0)] σ fun t4 σ =>
  Do (aPureC Go.Proofs.Try.prog 21 [a0]) fun t13 =>
  Do (aExt t13 0) fun t14 =>
  Do (aExt t13 1) fun t15 =>
  Do (aBin Go.Proofs.Try.prog .neq 26 t15 (.val (.int .i64 0))) fun t17 =>
  aCond t17
    (Do (aLit [.val (.string ⟨#[]⟩), .val (.string ⟨#[]⟩), .val (.bool false), .val (.int .i64 0)] [(0, 1), (1, 1), (2, 1), (3, 1)] []) fun t18 =>
    storeA 4 t4 t18 σ fun u σ_1 =>
    Do (loadA true 4 t4 σ_1) fun r4 => Q (.ret (.tuple [r4, (.val (.bool false)), t15])) σ_1)
    (Do (aPureC Go.Proofs.Try.prog 54 [t14, a1, (.val (.func (.func 55) #[] #[]))]) fun t23 =>
  Do (aExt t23 0) fun t24 =>
  Do (aExt t23 1) fun t25 =>
  Do (aUn Go.Proofs.Try.prog .not t25) fun t27 =>
  aCond t27
    (Do (aLit [.val (.string ⟨#[]⟩), .val (.string ⟨#[]⟩), .val (.bool false), .val (.int .i64 0)] [(0, 1), (1, 1), (2, 1), (3, 1)] []) fun t28 =>
    storeA 4 t4 t28 σ fun u_1 σ_2 =>
    Do (loadA true 4 t4 σ_2) fun r4_1 => Q (.ret (.tuple [r4_1, (.val (.bool false)), (.val (.int .i64 0))])) σ_2)
    (Do (aIndexAddr .slice 4 t14 t24) fun t31 =>
  Do (loadF true 4 t31) fun t32 =>
  storeA 4 t4 t32 σ fun u_2 σ_3 =>
  Do (loadA true 4 t4 σ_3) fun r4_2 => Q (.ret (.tuple [r4_2, (.val (.bool true)), (.val (.int .i64 0))])) σ_3))
theorem table_Get.eq (a0 a1 : AV) (σ : Store) (Q : AEnd → Store → Prop) : vc (semOf Go.Proofs.Try.prog table_Get.mark) Go.Proofs.Try.f23.ntmps table_Get.ann (bodyOf Go.Proofs.Try.f23) (endK [.cell 4 true 4, .tmp 5, .tmp 6] Q) (argFr [a0, a1]) σ = table_Get.sh a0 a1 σ Q := by kernel_rfl
theorem table_Get.go {a0 a1 : AV} {σ : Store} {Q : AEnd → Store → Prop} (h : table_Get.sh a0 a1 σ Q) : ACalls Go.Proofs.Try.prog 23 [a0, a1] σ Q :=
  acalls_of_eq [.cell 4 true 4, .tmp 5, .tmp 6] Go.Proofs.Try.func23 (by kernel_rfl) (by kernel_rfl) (by kernel_rfl) (by kernel_rfl) (table_Get.eq a0 a1 σ Q) h
/-- A key's entry. -/
def getF (l : List En) (k : List UInt8) : En := if hasK l k = true then l.getD (placeN l k) default else En.zero
theorem tGet_ok (b : List UInt8) (m : SM) (k : List UInt8) (hl : b.length ≤ 1000000000) : aPure Go.Proofs.Try.prog 23 [.lst 1 (b.map byt) m, S k] (.tuple [(getF (tblV b) k).av, B (hasK (tblV b) k), I .i64 (tblX b)]) := by
  refine ACalls.fin (table_Get.go ?_)
  unfold table_Get.sh
  have hr := tblV_rises b
  have h64 := tblV_len b
  have hpl := has_place hr k
  have z0 : (⟨[], [], false, 0⟩ : En) = En.zero := rfl
  by_cases h0 : tblX b = 0
  · cases hk : hasK (tblV b) k with
    | true =>
      have hlt : placeN (tblV b) k < (tblV b).length := by
        rw [hk] at hpl
        simp only [Bool.true_eq, Bool.and_eq_true, decide_eq_true_eq] at hpl
        exact hpl.1
      have hF : getF (tblV b) k = (tblV b).getD (placeN (tblV b) k) default := by rw [getF, if_pos hk]
      rw [hF, h0]
      have iS : PC Go.Proofs.Try.prog 54 [.lst 4 ((tblV b).map En.av) .ro, S k, .val (.func (.func 55) #[] #[])] True (.tuple [I .i64 (placeN (tblV b) k : Nat), B true]) := ⟨fun _ => by
        have := PC.of (Search_ok (tblV b) .ro k _ (fun e => Get1_ok e k) hr (by omega))
        rw [hk] at this
        exact this⟩
      repeat' (first | with_reducible apply Stp.go | with_reducible refine imp fun _ => ?_ | (with_reducible refine hyp ?_ ?_; first | assumption | exact leftT_mem (by assumption)) | (with_reducible refine need ?_ ?_; first | trivial | omega | exact ⟨by assumption, by omega⟩ | (simp only [List.length_append, List.length_cons, List.length_nil, List.length_map, List.length_take, List.length_drop, List.length_replicate, List.length_set]; omega)) | (with_reducible refine fact ?_ ?_; first | trivial | exact ⟨rfl, rfl⟩ | kernel_rfl) | with_reducible refine choT (by assumption) ?_ | with_reducible refine choF (by assumption) ?_ | with_reducible refine choF' (by assumption) ?_ | (with_reducible refine altT ?_ ?_; first | omega | (simp only [List.length_append, List.length_cons, List.length_nil, List.length_map, List.length_take, List.length_drop, List.length_replicate, List.length_set]; omega)) | with_reducible refine altF ?_ | with_reducible refine all fun _ => ?_ | with_reducible refine both ?_ ?_ | (with_reducible refine choT ?_ ?_; omega) | (with_reducible refine choF ?_ ?_; omega) | with_reducible refine cho (fun _ => ?_) (fun _ => ?_))
      all_goals first
        | contradiction
        | exact ⟨_, _, _, rfl, Sub.app_nil _, rfl, rfl⟩
        | trace_state
    | false =>
      have hF : getF (tblV b) k = En.zero := by rw [getF, if_neg (by rw [hk]; decide)]
      rw [hF, h0]
      have iS : PC Go.Proofs.Try.prog 54 [.lst 4 ((tblV b).map En.av) .ro, S k, .val (.func (.func 55) #[] #[])] True (.tuple [I .i64 (placeN (tblV b) k : Nat), B false]) := ⟨fun _ => by
        have := PC.of (Search_ok (tblV b) .ro k _ (fun e => Get1_ok e k) hr (by omega))
        rw [hk] at this
        exact this⟩
      repeat' (first | with_reducible apply Stp.go | with_reducible refine imp fun _ => ?_ | (with_reducible refine hyp ?_ ?_; first | assumption | exact leftT_mem (by assumption)) | (with_reducible refine need ?_ ?_; first | trivial | omega | exact ⟨by assumption, by omega⟩ | (simp only [List.length_append, List.length_cons, List.length_nil, List.length_map, List.length_take, List.length_drop, List.length_replicate, List.length_set]; omega)) | (with_reducible refine fact ?_ ?_; first | trivial | exact ⟨rfl, rfl⟩ | kernel_rfl) | with_reducible refine choT (by assumption) ?_ | with_reducible refine choF (by assumption) ?_ | with_reducible refine choF' (by assumption) ?_ | (with_reducible refine altT ?_ ?_; first | omega | (simp only [List.length_append, List.length_cons, List.length_nil, List.length_map, List.length_take, List.length_drop, List.length_replicate, List.length_set]; omega)) | with_reducible refine altF ?_ | with_reducible refine all fun _ => ?_ | with_reducible refine both ?_ ?_ | (with_reducible refine choT ?_ ?_; omega) | (with_reducible refine choF ?_ ?_; omega) | with_reducible refine cho (fun _ => ?_) (fun _ => ?_))
      all_goals first
        | contradiction
        | exact ⟨_, _, _, rfl, Sub.app_nil _, rfl, rfl⟩
        | trace_state
  · obtain ⟨h2, h3⟩ := tblX_two b h0
    rw [h3] at hpl
    have hk : hasK [] k = false := by rw [hpl]; rfl
    have hF : getF [] k = En.zero := by rw [getF, if_neg (by rw [hk]; decide)]
    have iP : PC Go.Proofs.Try.prog 21 [.lst 1 (b.map byt) m] True (.tuple [.lst 4 (([] : List En).map En.av) .ro, .val (.int .i64 2)]) := ⟨fun _ => by
      have := PC.of (tParse_ok b m hl)
      rw [h3, h2] at this
      exact this⟩
    rw [h3, h2, hF, hk]
    repeat' (first | with_reducible apply Stp.go | with_reducible refine imp fun _ => ?_ | (with_reducible refine hyp ?_ ?_; first | assumption | exact leftT_mem (by assumption)) | (with_reducible refine need ?_ ?_; first | trivial | omega | exact ⟨by assumption, by omega⟩ | (simp only [List.length_append, List.length_cons, List.length_nil, List.length_map, List.length_take, List.length_drop, List.length_replicate, List.length_set]; omega)) | (with_reducible refine fact ?_ ?_; first | trivial | exact ⟨rfl, rfl⟩ | kernel_rfl) | with_reducible refine choT (by assumption) ?_ | with_reducible refine choF (by assumption) ?_ | with_reducible refine choF' (by assumption) ?_ | (with_reducible refine altT ?_ ?_; first | omega | (simp only [List.length_append, List.length_cons, List.length_nil, List.length_map, List.length_take, List.length_drop, List.length_replicate, List.length_set]; omega)) | with_reducible refine altF ?_ | with_reducible refine all fun _ => ?_ | with_reducible refine both ?_ ?_ | (with_reducible refine choT ?_ ?_; omega) | (with_reducible refine choF ?_ ?_; omega) | with_reducible refine cho (fun _ => ?_) (fun _ => ?_))
    all_goals first
      | contradiction
      | exact ⟨_, _, _, rfl, Sub.app_nil _, rfl, rfl⟩
      | trace_state
end Go.Ab

/- ref11.Parse, ref11.Get. -/
set_option linter.unusedVariables false
set_option linter.unusedSimpArgs false
namespace Go.Ab
/-- The entries of blocks, read as they are cut. -/
def bothA : Nat → List UInt8 → List UInt8 → List En → Option (List En)
  | 0, _, _, acc => some acc
  | n + 1, ix, rest, acc =>
    if textO ix = true ∧ getO (ix.drop (textN ix)) = true ∧ getV (ix.drop (textN ix)) ≤ rest.length then
      match blkG (rest.take (getV (ix.drop (textN ix)))) with
      | none => none
      | some p => bothA n (ix.drop (textN ix + getN (ix.drop (textN ix)))) (rest.drop (getV (ix.drop (textN ix)))) (acc ++ p)
    else none
theorem cutA_acc : ∀ (n : Nat) (ix rest : List UInt8) (acc : List (List UInt8)), cutA n ix rest acc = (cutA n ix rest []).map (acc ++ ·)
  | 0, _, _, acc => by simp [cutA]
  | n + 1, ix, rest, acc => by
    rw [cutA, cutA]
    split
    · rw [cutA_acc n _ _ (acc ++ _), cutA_acc n _ _ ([] ++ _), Option.map_map]
      congr 1
      funext x
      simp
    · rfl
theorem both_eq : ∀ (n : Nat) (ix rest : List UInt8) (e : List En), bothA n ix rest e = match cutA n ix rest [] with | none => none | some r => partsG r e
  | 0, _, _, e => by simp [cutA, bothA, partsG]
  | n + 1, ix, rest, e => by
    rw [bothA, cutA]
    split
    · rw [cutA_acc, List.nil_append]
      cases hb : blkG (rest.take (getV (ix.drop (textN ix)))) with
      | none =>
        cases cutA n (ix.drop (textN ix + getN (ix.drop (textN ix)))) (rest.drop (getV (ix.drop (textN ix)))) [] with
        | none => rfl
        | some r =>
          show none = partsG (_ :: r) e
          rw [partsG, hb]
      | some p =>
        show bothA n _ _ (e ++ p) = _
        rw [both_eq]
        cases cutA n (ix.drop (textN ix + getN (ix.drop (textN ix)))) (rest.drop (getV (ix.drop (textN ix)))) [] with
        | none => rfl
        | some r =>
          show partsG r (e ++ p) = partsG (_ :: r) e
          rw [partsG, hb]
    · rfl
theorem tblG_eq (b : List UInt8) : tblG b = if b.length < 12 then none else if 64 < cutN b ∨ b.length - 8 < cutP b ∨ cutP b < 4 then none else
    match bothA (cutN b) ((b.take (b.length - 8)).drop (cutP b)) ((b.take (cutP b)).drop 4) [] with
    | none => none
    | some l => if fit l = true ∧ tbB l = b then some l else none := by
  rw [tblG, cutG]
  split
  · rename_i h
    split at h
    · rename_i h1; rw [if_pos h1]
    · rename_i h1
      rw [if_neg h1]
      split at h
      · rename_i h2; rw [if_pos h2]
      · rename_i h2
        rw [if_neg h2, both_eq, h]
  · rename_i bs h
    split at h
    · cases h
    · rename_i h1
      rw [if_neg h1]
      split at h
      · cases h
      · rename_i h2
        rw [if_neg h2, both_eq, h]
        rfl
def ref11_Parse.mark : Mark := ⟨fun t => Nat.beq t 31 || Nat.beq t 40 || Nat.beq t 77 || Nat.beq t 87 || Nat.beq t 110, fun t => false, fun t => false, fun t => false, fun t => Nat.beq t 124⟩
def ref11_Parse.ann : Ann := ⟨fun n => bif Nat.beq n 11 then [0, 4, 8, 9, 10, 11] else [], fun n => none, fun n => none⟩
/-- 'marlstone/marlstoneref11.Parse' -/
def ref11_Parse.sh (a0 : AV) (σ : Store) (Q : AEnd → Store → Prop) : Prop :=
  Do (aBuiltin Go.Proofs.Try.prog .len #[9] [a0]) fun t23 =>
  Do (aBin Go.Proofs.Try.prog .lss 3 t23 (.val (.int .i64 12))) fun t24 =>
  aCond t24
    (Q (.ret (.tuple [(.val (.slice none 0 0)), (.val (.int .i64 2))])) σ)
    (Do (aBuiltin Go.Proofs.Try.prog .len #[9] [a0]) fun t28 =>
  Do (aBin Go.Proofs.Try.prog .sub 3 t28 (.val (.int .i64 8))) fun t29 =>
  Do (aSlice .string 1 a0 (some t29) none none) fun t30 =>
  Do (aPureC Go.Proofs.Try.prog 50 [t30]) fun t31 =>
  Do (aExt t31 0) fun t32 =>
  Do (aExt t31 1) fun t33 =>
  Do (aBuiltin Go.Proofs.Try.prog .len #[9] [a0]) fun t37 =>
  Do (aBin Go.Proofs.Try.prog .sub 3 t37 (.val (.int .i64 4))) fun t38 =>
  Do (aSlice .string 1 a0 (some t38) none none) fun t39 =>
  Do (aPureC Go.Proofs.Try.prog 50 [t39]) fun t40 =>
  Do (aExt t40 0) fun t41 =>
  Do (aExt t40 1) fun t42 =>
  Do (aBin Go.Proofs.Try.prog .gtr 73 t32 (W32 64)) fun t44 =>
  Do (aGuard t44 false (aIs t41)) fun t46 =>
  Do (aGuard t44 false (fun x => aConvN 73 71 t46 x Go.Proofs.Try.prog)) fun t47 =>
  Do (aGuard t44 false (aIs a0)) fun t48 =>
  Do (aGuard t44 false (aBuiltin Go.Proofs.Try.prog .len #[9] [t48])) fun t49 =>
  Do (aGuard t44 false (aBin Go.Proofs.Try.prog .sub 3 t49 (.val (.int .i64 8)))) fun t50 =>
  Do (aGuard t44 false (fun x => aConvN 3 71 t50 x Go.Proofs.Try.prog)) fun t51 =>
  Do (aGuard t44 false (aBin Go.Proofs.Try.prog .gtr 71 t47 t51)) fun t52 =>
  Do (aPick t44 (.val (.bool true)) t52) fun t53 =>
  Do (aGuard t53 false (aIs t41)) fun t55 =>
  Do (aGuard t53 false (aBin Go.Proofs.Try.prog .lss 73 t55 (W32 4))) fun t56 =>
  Do (aPick t53 (.val (.bool true)) t56) fun t57 =>
  aCond t57
    (Q (.ret (.tuple [(.val (.slice none 0 0)), (.val (.int .i64 2))])) σ)
    (Do (fun x => aConvN 73 3 t41 x Go.Proofs.Try.prog) fun t60 =>
  Do (aBuiltin Go.Proofs.Try.prog .len #[9] [a0]) fun t62 =>
  Do (aBin Go.Proofs.Try.prog .sub 3 t62 (.val (.int .i64 8))) fun t63 =>
  Do (aSlice .string 1 a0 (some t60) (some t63) none) fun t64 =>
  Do (fun x => aConvN 73 3 t41 x Go.Proofs.Try.prog) fun t67 =>
  Do (aSlice .string 1 a0 (some (.val (.int .i64 4))) (some t67) none) fun t68 =>
  aLoop (fun go vs σ =>
    At vs 0 fun s0 => At vs 1 fun s4 => At vs 2 fun s8 => At vs 3 fun s9 => At vs 4 fun s10 => At vs 5 fun s11 => Do (fun x => aConvN 73 3 s4 x Go.Proofs.Try.prog) fun t71 =>
    Do (aBin Go.Proofs.Try.prog .lss 3 s11 t71) fun t72 =>
    aCond t72
      (Do (aPureC Go.Proofs.Try.prog 51 [s8]) fun t77 =>
    Do (aExt t77 0) fun t78 =>
    Do (aExt t77 1) fun t79 =>
    Do (aExt t77 2) fun t80 =>
    Do (aUn Go.Proofs.Try.prog .not t80) fun t82 =>
    aCond t82
      (Q (.ret (.tuple [(.val (.slice none 0 0)), (.val (.int .i64 2))])) σ)
      (Do (aSlice .string 1 s8 (some t79) none none) fun t86 =>
    Do (aPureC Go.Proofs.Try.prog 52 [t86]) fun t87 =>
    Do (aExt t87 0) fun t88 =>
    Do (aExt t87 1) fun t89 =>
    Do (aExt t87 2) fun t90 =>
    Do (aUn Go.Proofs.Try.prog .not t90) fun t92 =>
    Do (aGuard t92 false (aIs t88)) fun t94 =>
    Do (aGuard t92 false (aIs s9)) fun t95 =>
    Do (aGuard t92 false (aBuiltin Go.Proofs.Try.prog .len #[9] [t95])) fun t96 =>
    Do (aGuard t92 false (fun x => aConvN 3 71 t96 x Go.Proofs.Try.prog)) fun t97 =>
    Do (aGuard t92 false (aBin Go.Proofs.Try.prog .gtr 71 t94 t97)) fun t98 =>
    Do (aPick t92 (.val (.bool true)) t98) fun t99 =>
    aCond t99
      (Q (.ret (.tuple [(.val (.slice none 0 0)), (.val (.int .i64 2))])) σ)
      (Do (aBin Go.Proofs.Try.prog .add 3 t79 t89) fun t103 =>
    Do (aSlice .string 1 s8 (some t103) none none) fun t104 =>
    Do (fun x => aConvN 71 3 t88 x Go.Proofs.Try.prog) fun t108 =>
    Do (aSlice .string 1 s9 none (some t108) none) fun t109 =>
    Do (aPureC Go.Proofs.Try.prog 53 [t109]) fun t110 =>
    Do (aExt t110 0) fun t111 =>
    Do (aExt t110 1) fun t112 =>
    Do (aBin Go.Proofs.Try.prog .neq 26 t112 (.val (.int .i64 0))) fun t114 =>
    aCond t114
      (Q (.ret (.tuple [(.val (.slice none 0 0)), (.val (.int .i64 2))])) σ)
      (aAppend 52 4 48 s10 t111 σ (subK fun t117 σ_1 =>
    Do (fun x => aConvN 71 3 t88 x Go.Proofs.Try.prog) fun t120 =>
    Do (aSlice .string 1 s9 (some t120) none none) fun t121 =>
    Do (aBin Go.Proofs.Try.prog .add 3 s11 (.val (.int .i64 1))) fun t74 =>
    go [s0, s4, t104, t121, t117, t74] σ_1)))))
      (Do (lookC Go.Proofs.Try.prog 14 [s10] σ) fun t124 =>
  Do (aExt t124 0) fun t125 =>
  Do (aExt t124 1) fun t126 =>
  Do (aBin Go.Proofs.Try.prog .neq 26 t126 (.val (.int .i64 0))) fun t128 =>
  Do (aGuard t128 false (aIs t125)) fun t130 =>
  Do (aGuard t128 false (aIs s0)) fun t131 =>
  Do (aGuard t128 false (aBin Go.Proofs.Try.prog .neq 9 t130 t131)) fun t132 =>
  Do (aPick t128 (.val (.bool true)) t132) fun t133 =>
  aCond t133
    (Q (.ret (.tuple [(.val (.slice none 0 0)), (.val (.int .i64 2))])) σ)
    (Q (.ret (.tuple [s10, (.val (.int .i64 0))])) σ)))
    [a0, t32, t64, t68, (.val (.slice none 0 0)), (.val (.int .i64 0))] σ))
theorem ref11_Parse.eq (a0 : AV) (σ : Store) (Q : AEnd → Store → Prop) : vc (semOf Go.Proofs.Try.prog ref11_Parse.mark) Go.Proofs.Try.f22.ntmps ref11_Parse.ann (bodyOf Go.Proofs.Try.f22) (endK [.tmp 2, .tmp 3] Q) (argFr [a0]) σ = ref11_Parse.sh a0 σ Q := by kernel_rfl
theorem ref11_Parse.go {a0 : AV} {σ : Store} {Q : AEnd → Store → Prop} (h : ref11_Parse.sh a0 σ Q) : ACalls Go.Proofs.Try.prog 22 [a0] σ Q :=
  acalls_of_eq [.tmp 2, .tmp 3] Go.Proofs.Try.func22 (by kernel_rfl) (by kernel_rfl) (by kernel_rfl) (by kernel_rfl) (ref11_Parse.eq a0 σ Q) h
theorem ref11_Parse_ok (b : List UInt8) (hl : b.length ≤ 1000000000) : aPure Go.Proofs.Try.prog 22 [S b] (.tuple [.lst 4 ((tblV b).map En.av) .ro, I .i64 (tblX b)]) := by
  refine ACalls.fin (ref11_Parse.go ?_)
  unfold ref11_Parse.sh
  have hT := tblG_eq b
  by_cases h12 : b.length < 12
  · rw [if_pos h12] at hT
    repeat' (first | with_reducible apply Stp.go | with_reducible refine imp fun _ => ?_ | (with_reducible refine hyp ?_ ?_; first | assumption | exact leftT_mem (by assumption)) | (with_reducible refine need ?_ ?_; first | trivial | omega | exact ⟨by assumption, by omega⟩ | (simp only [List.length_append, List.length_cons, List.length_nil, List.length_map, List.length_take, List.length_drop, List.length_replicate, List.length_set]; omega)) | (with_reducible refine fact ?_ ?_; first | trivial | exact ⟨rfl, rfl⟩ | kernel_rfl) | with_reducible refine choT (by assumption) ?_ | with_reducible refine choF (by assumption) ?_ | with_reducible refine choF' (by assumption) ?_ | (with_reducible refine altT ?_ ?_; first | omega | (simp only [List.length_append, List.length_cons, List.length_nil, List.length_map, List.length_take, List.length_drop, List.length_replicate, List.length_set]; omega)) | with_reducible refine altF ?_ | with_reducible refine all fun _ => ?_ | with_reducible refine both ?_ ?_ | (with_reducible refine choT ?_ ?_; omega) | (with_reducible refine choF ?_ ?_; omega) | with_reducible refine cho (fun _ => ?_) (fun _ => ?_))
    exact tbl_fail hT
  · rw [if_neg h12] at hT
    have hn := fixV_lt (b.drop (b.length - 8))
    have hp := fixV_lt (b.drop (b.length - 4))
    obtain ⟨w, hw0⟩ : ∃ w : UInt32, UInt32.ofNat (fixV (b.drop (b.length - 8))) = w := ⟨_, rfl⟩
    obtain ⟨z, hz0⟩ : ∃ z : UInt32, UInt32.ofNat (fixV (b.drop (b.length - 4))) = z := ⟨_, rfl⟩
    have hw : cutN b = w.toNat := by rw [← hw0]; exact (Nat.mod_eq_of_lt hn).symm
    have hz : cutP b = z.toNat := by rw [← hz0, cutP, show b.length - 8 + 4 = b.length - 4 by omega]; exact (Nat.mod_eq_of_lt hp).symm
    have iN : PC Go.Proofs.Try.prog 50 [S (b.drop (b.length - 8))] True (.tuple [W32 w, B (decide (4 ≤ (b.drop (b.length - 8)).length))]) := ⟨fun _ => by
      have := PC.of (ref01_Fixed_ok (b.drop (b.length - 8)) (by simp only [List.length_drop]; omega))
      rw [hw0] at this
      exact this⟩
    have iZ : PC Go.Proofs.Try.prog 50 [S (b.drop (b.length - 4))] True (.tuple [W32 z, B (decide (4 ≤ (b.drop (b.length - 4)).length))]) := ⟨fun _ => by
      have := PC.of (ref01_Fixed_ok (b.drop (b.length - 4)) (by simp only [List.length_drop]; omega))
      rw [hz0] at this
      exact this⟩
    rw [hw, hz] at hT
    clear hw0 hz0 hw hz hn hp
    have hzb := UInt32.toNat_lt z
    have hwb := UInt32.toNat_lt w
    by_cases hc : 64 < w.toNat ∨ b.length - 8 < z.toNat ∨ z.toNat < 4
    · rw [if_pos hc] at hT
      repeat' (first | with_reducible apply Stp.go | with_reducible refine imp fun _ => ?_ | (with_reducible refine hyp ?_ ?_; first | assumption | exact leftT_mem (by assumption)) | (with_reducible refine need ?_ ?_; first | trivial | omega | exact ⟨by assumption, by omega⟩ | (simp only [List.length_append, List.length_cons, List.length_nil, List.length_map, List.length_take, List.length_drop, List.length_replicate, List.length_set]; omega)) | (with_reducible refine fact ?_ ?_; first | trivial | exact ⟨rfl, rfl⟩ | kernel_rfl) | with_reducible refine choT (by assumption) ?_ | with_reducible refine choF (by assumption) ?_ | with_reducible refine choF' (by assumption) ?_ | (with_reducible refine altT ?_ ?_; first | omega | (simp only [List.length_append, List.length_cons, List.length_nil, List.length_map, List.length_take, List.length_drop, List.length_replicate, List.length_set]; omega)) | with_reducible refine altF ?_ | with_reducible refine all fun _ => ?_ | with_reducible refine both ?_ ?_ | (with_reducible refine choT ?_ ?_; omega) | (with_reducible refine choF ?_ ?_; omega) | with_reducible refine cho (fun _ => ?_) (fun _ => ?_))
      all_goals first
        | exact tbl_fail hT
        | (exfalso; omega)
        | trace_state
    · rw [if_neg hc] at hT
      obtain ⟨X0, hX0⟩ : ∃ X, bothA w.toNat ((b.take (b.length - 8)).drop z.toNat) ((b.take z.toNat).drop 4) [] = X := ⟨_, rfl⟩
      rw [hX0] at hT
      repeat' (first | with_reducible apply Stp.go | with_reducible refine imp fun _ => ?_ | (with_reducible refine hyp ?_ ?_; first | assumption | exact leftT_mem (by assumption)) | (with_reducible refine need ?_ ?_; first | trivial | omega | exact ⟨by assumption, by omega⟩ | (simp only [List.length_append, List.length_cons, List.length_nil, List.length_map, List.length_take, List.length_drop, List.length_replicate, List.length_set]; omega)) | (with_reducible refine fact ?_ ?_; first | trivial | exact ⟨rfl, rfl⟩ | kernel_rfl) | with_reducible refine choT (by assumption) ?_ | with_reducible refine choF (by assumption) ?_ | with_reducible refine choF' (by assumption) ?_ | (with_reducible refine altT ?_ ?_; first | omega | (simp only [List.length_append, List.length_cons, List.length_nil, List.length_map, List.length_take, List.length_drop, List.length_replicate, List.length_set]; omega)) | with_reducible refine altF ?_ | with_reducible refine all fun _ => ?_ | with_reducible refine both ?_ ?_ | (with_reducible refine choT ?_ ?_; omega) | (with_reducible refine choF ?_ ?_; omega) | with_reducible refine cho (fun _ => ?_) (fun _ => ?_))
      all_goals first
        | (exfalso; omega)
        | skip
      refine loopI (β := Nat × List UInt8 × List UInt8 × Value × List En) (fun x => x.1 ≤ w.toNat ∧ x.2.2.2.2.length ≤ 65 * x.1 ∧ x.2.1.length ≤ b.length ∧ x.2.2.1.length ≤ b.length ∧ bothA (w.toNat - x.1) x.2.1 x.2.2.1 x.2.2.2.2 = X0)
        (fun x => [S b, W32 w, S x.2.1, S x.2.2.1, .own x.2.2.2.1 x.2.2.2.2.length, I .i64 (x.1 : Nat)]) (fun x => [.row x.2.2.2.1 52 4 (x.2.2.2.2.map En.av) 0]) (fun x => w.toNat - x.1) (0, (b.take (b.length - 8)).drop z.toNat, (b.take z.toNat).drop 4, .slice none 0 0, []) ⟨Nat.zero_le _, by simp, by simp only [List.length_drop, List.length_take]; omega, by simp only [List.length_drop, List.length_take]; omega, hX0⟩ (Sub.nil_own 52 (by decide) _ [_, _, _, _] [_]) ?_
      rintro ⟨j, ix, rest, v, acc⟩ ⟨h1, h2, h3, h4, h5⟩
      dsimp only at h1 h2 h3 h4 h5 ⊢
      by_cases hlt : j < w.toNat
      · rw [show w.toNat - j = (w.toNat - (j + 1)) + 1 by omega, bothA] at h5
        have hgb := get_bound (s := ix.drop (textN ix))
        have htb := text_bound (s := ix)
        obtain ⟨g, hg0⟩ : ∃ g : UInt64, UInt64.ofNat (getV (ix.drop (textN ix))) = g := ⟨_, rfl⟩
        have hg : getV (ix.drop (textN ix)) = g.toNat := by rw [← hg0]; exact (Nat.mod_eq_of_lt hgb.1).symm
        have iT : PC Go.Proofs.Try.prog 52 [S (ix.drop (textN ix))] True (.tuple [W64 g, I .i64 (getN (ix.drop (textN ix)) : Nat), B (getO (ix.drop (textN ix)))]) := ⟨fun _ => by
          have := PC.of (ref01_Get_ok (ix.drop (textN ix)) (by simp only [List.length_drop]; omega))
          rw [hg0] at this
          exact this⟩
        rw [hg] at h5 hgb
        clear hg hg0
        have hsum : textN ix + getN (ix.drop (textN ix)) ≤ ix.length := by have := hgb.2.2.1; simp only [List.length_drop] at this; omega
        by_cases hpos : textO ix = true ∧ getO (ix.drop (textN ix)) = true ∧ g.toNat ≤ rest.length
        · rw [if_pos hpos] at h5
          obtain ⟨p1, p2, p3⟩ := hpos
          have htl : (rest.take g.toNat).length ≤ 1000000000 := by simp only [List.length_take]; omega
          cases hb : blkG (rest.take g.toNat) with
          | none =>
            rw [hb] at h5
            have iP : PC Go.Proofs.Try.prog 53 [S (rest.take g.toNat)] True (.tuple [.lst 4 (([] : List En).map En.av) .ro, .val (.int .i64 2)]) := ⟨fun _ => by
              have := PC.of (ref04_Parse_ok (rest.take g.toNat) htl)
              rw [blkV, blkX, hb] at this
              exact this⟩
            repeat' (first | with_reducible apply Stp.go | with_reducible refine imp fun _ => ?_ | (with_reducible refine hyp ?_ ?_; first | assumption | exact leftT_mem (by assumption)) | (with_reducible refine need ?_ ?_; first | trivial | omega | exact ⟨by assumption, by omega⟩ | (simp only [List.length_append, List.length_cons, List.length_nil, List.length_map, List.length_take, List.length_drop, List.length_replicate, List.length_set]; omega)) | (with_reducible refine fact ?_ ?_; first | trivial | exact ⟨rfl, rfl⟩ | kernel_rfl) | with_reducible refine choT (by assumption) ?_ | with_reducible refine choF (by assumption) ?_ | with_reducible refine choF' (by assumption) ?_ | (with_reducible refine altT ?_ ?_; first | omega | (simp only [List.length_append, List.length_cons, List.length_nil, List.length_map, List.length_take, List.length_drop, List.length_replicate, List.length_set]; omega)) | with_reducible refine altF ?_ | with_reducible refine all fun _ => ?_ | with_reducible refine both ?_ ?_ | (with_reducible refine choT ?_ ?_; omega) | (with_reducible refine choF ?_ ?_; omega) | with_reducible refine cho (fun _ => ?_) (fun _ => ?_))
            all_goals first
              | contradiction
              | (exfalso; omega)
              | exact tbl_fail (by rw [hT, ← h5])
              | trace_state
          | some p =>
            rw [hb] at h5
            have hpl := blkG_len hb
            have iP : PC Go.Proofs.Try.prog 53 [S (rest.take g.toNat)] True (.tuple [.lst 4 (p.map En.av) .ro, .val (.int .i64 0)]) := ⟨fun _ => by
              have := PC.of (ref04_Parse_ok (rest.take g.toNat) htl)
              rw [blkV, blkX, hb] at this
              exact this⟩
            repeat' (first | with_reducible apply Stp.go | with_reducible refine imp fun _ => ?_ | (with_reducible refine hyp ?_ ?_; first | assumption | exact leftT_mem (by assumption)) | (with_reducible refine need ?_ ?_; first | trivial | omega | exact ⟨by assumption, by omega⟩ | (simp only [List.length_append, List.length_cons, List.length_nil, List.length_map, List.length_take, List.length_drop, List.length_replicate, List.length_set]; omega)) | (with_reducible refine fact ?_ ?_; first | trivial | exact ⟨rfl, rfl⟩ | kernel_rfl) | with_reducible refine choT (by assumption) ?_ | with_reducible refine choF (by assumption) ?_ | with_reducible refine choF' (by assumption) ?_ | (with_reducible refine altT ?_ ?_; first | omega | (simp only [List.length_append, List.length_cons, List.length_nil, List.length_map, List.length_take, List.length_drop, List.length_replicate, List.length_set]; omega)) | with_reducible refine altF ?_ | with_reducible refine all fun _ => ?_ | with_reducible refine both ?_ ?_ | (with_reducible refine choT ?_ ?_; omega) | (with_reducible refine choF ?_ ?_; omega) | with_reducible refine cho (fun _ => ?_) (fun _ => ?_))
            all_goals first
              | contradiction
              | (exfalso; omega)
              | (rename_i xv
                 refine again (j + 1, ix.drop (textN ix + getN (ix.drop (textN ix))), rest.drop g.toNat, xv, acc ++ p) (by dsimp only; omega) ⟨by dsimp only; omega, by dsimp only; simp only [List.length_append]; omega, by dsimp only; simp only [List.length_drop]; omega, by dsimp only; simp only [List.length_drop]; omega, h5⟩ ?_
                 exact Sub.refl _ _)
              | trace_state
        · rw [if_neg hpos] at h5
          repeat' (first | with_reducible apply Stp.go | with_reducible refine imp fun _ => ?_ | (with_reducible refine hyp ?_ ?_; first | assumption | exact leftT_mem (by assumption)) | (with_reducible refine need ?_ ?_; first | trivial | omega | exact ⟨by assumption, by omega⟩ | (simp only [List.length_append, List.length_cons, List.length_nil, List.length_map, List.length_take, List.length_drop, List.length_replicate, List.length_set]; omega)) | (with_reducible refine fact ?_ ?_; first | trivial | exact ⟨rfl, rfl⟩ | kernel_rfl) | with_reducible refine choT (by assumption) ?_ | with_reducible refine choF (by assumption) ?_ | with_reducible refine choF' (by assumption) ?_ | (with_reducible refine altT ?_ ?_; first | omega | (simp only [List.length_append, List.length_cons, List.length_nil, List.length_map, List.length_take, List.length_drop, List.length_replicate, List.length_set]; omega)) | with_reducible refine altF ?_ | with_reducible refine all fun _ => ?_ | with_reducible refine both ?_ ?_ | (with_reducible refine choT ?_ ?_; omega) | (with_reducible refine choF ?_ ?_; omega) | with_reducible refine cho (fun _ => ?_) (fun _ => ?_))
          all_goals first
            | exact tbl_fail (by rw [hT, ← h5])
            | (exfalso; apply hpos; refine ⟨?_, ?_, ?_⟩ <;> first | assumption | omega | simp_all)
            | trace_state
      · have e : j = w.toNat := by omega
        rw [e, Nat.sub_self, bothA] at h5
        rw [← h5] at hT
        have hT : tblG b = if fit acc = true ∧ tbB acc = b then some acc else none := hT
        by_cases hf : fit acc = true
        · have iB : PC Go.Proofs.Try.prog 14 [.lst 4 (acc.map En.av) .ro] True (.tuple [S (tbB acc), .val (.int .i64 0)]) := ⟨fun _ => by
            have := PC.of (ref11_Bytes_ok acc .ro (by omega))
            rw [tbE, if_pos hf] at this
            exact this⟩
          repeat' (first | with_reducible apply Stp.go | with_reducible refine imp fun _ => ?_ | (with_reducible refine hyp ?_ ?_; first | assumption | exact leftT_mem (by assumption)) | (with_reducible refine need ?_ ?_; first | trivial | omega | exact ⟨by assumption, by omega⟩ | (simp only [List.length_append, List.length_cons, List.length_nil, List.length_map, List.length_take, List.length_drop, List.length_replicate, List.length_set]; omega)) | (with_reducible refine fact ?_ ?_; first | trivial | exact ⟨rfl, rfl⟩ | kernel_rfl) | with_reducible refine choT (by assumption) ?_ | with_reducible refine choF (by assumption) ?_ | with_reducible refine choF' (by assumption) ?_ | (with_reducible refine altT ?_ ?_; first | omega | (simp only [List.length_append, List.length_cons, List.length_nil, List.length_map, List.length_take, List.length_drop, List.length_replicate, List.length_set]; omega)) | with_reducible refine altF ?_ | with_reducible refine all fun _ => ?_ | with_reducible refine both ?_ ?_ | (with_reducible refine choT ?_ ?_; omega) | (with_reducible refine choF ?_ ?_; omega) | with_reducible refine cho (fun _ => ?_) (fun _ => ?_))
          · rename_i h
            exact ⟨_, _, _, rfl, Sub.tuple (retOwn (Sub.refl _ _)), by simp [tblV, tblX, hT, hf, h], rfl⟩
          · rename_i h
            exact tbl_fail (by rw [hT, if_neg fun c => h c.2])
        · have iB : PC Go.Proofs.Try.prog 14 [.lst 4 (acc.map En.av) .ro] True (.tuple [S (tbB acc), .val (.int .i64 1)]) := ⟨fun _ => by
            have := PC.of (ref11_Bytes_ok acc .ro (by omega))
            rw [tbE, if_neg hf] at this
            exact this⟩
          repeat' (first | with_reducible apply Stp.go | with_reducible refine imp fun _ => ?_ | (with_reducible refine hyp ?_ ?_; first | assumption | exact leftT_mem (by assumption)) | (with_reducible refine need ?_ ?_; first | trivial | omega | exact ⟨by assumption, by omega⟩ | (simp only [List.length_append, List.length_cons, List.length_nil, List.length_map, List.length_take, List.length_drop, List.length_replicate, List.length_set]; omega)) | (with_reducible refine fact ?_ ?_; first | trivial | exact ⟨rfl, rfl⟩ | kernel_rfl) | with_reducible refine choT (by assumption) ?_ | with_reducible refine choF (by assumption) ?_ | with_reducible refine choF' (by assumption) ?_ | (with_reducible refine altT ?_ ?_; first | omega | (simp only [List.length_append, List.length_cons, List.length_nil, List.length_map, List.length_take, List.length_drop, List.length_replicate, List.length_set]; omega)) | with_reducible refine altF ?_ | with_reducible refine all fun _ => ?_ | with_reducible refine both ?_ ?_ | (with_reducible refine choT ?_ ?_; omega) | (with_reducible refine choF ?_ ?_; omega) | with_reducible refine cho (fun _ => ?_) (fun _ => ?_))
          exact tbl_fail (by rw [hT, if_neg fun c => hf c.1])
def ref11_Get.mark : Mark := ⟨fun t => Nat.beq t 12, fun t => false, fun t => false, fun t => Nat.beq t 29 || Nat.beq t 35, fun t => false⟩
def ref11_Get.ann : Ann := ⟨fun n => bif Nat.beq n 5 then [1, 4, 7, 9] else [], fun n => none, fun n => none⟩
/-- 'marlstone/marlstoneref11.Get' -/
def ref11_Get.sh (a0 a1 : AV) (σ : Store) (Q : AEnd → Store → Prop) : Prop :=
  aNewVar 52 [.val (.string ⟨#[]⟩), .val (.string ⟨#[]⟩), .val (.bool false), .val (.int .i64 0)] σ fun t4 σ =>
  Do (aPureC Go.Proofs.Try.prog 22 [a0]) fun t12 =>
  Do (aExt t12 0) fun t13 =>
  Do (aExt t12 1) fun t14 =>
  Do (aBin Go.Proofs.Try.prog .neq 26 t14 (.val (.int .i64 0))) fun t16 =>
  aCond t16
    (Do (aLit [.val (.string ⟨#[]⟩), .val (.string ⟨#[]⟩), .val (.bool false), .val (.int .i64 0)] [(0, 1), (1, 1), (2, 1), (3, 1)] []) fun t17 =>
    storeA 4 t4 t17 σ fun u σ_1 =>
    Do (loadA true 4 t4 σ_1) fun r4 => Q (.ret (.tuple [r4, (.val (.bool false)), t14])) σ_1)
    (aLoop (fun go vs σ_2 =>
    At vs 0 fun s1 => At vs 1 fun s4 => At vs 2 fun s7 => At vs 3 fun s9 => Do (aBuiltin Go.Proofs.Try.prog .len #[22] [s7]) fun t21 =>
    Do (aBin Go.Proofs.Try.prog .lss 3 s9 t21) fun t22 =>
    aCond t22
      (Do (aIndexAddr .slice 4 s7 s9) fun t27 =>
    Do (aFieldAddr 0 1 t27) fun t28 =>
    Do (loadF false 1 t28) fun t29 =>
    Do (aBin Go.Proofs.Try.prog .eql 9 t29 s1) fun t31 =>
    aCond t31
      (Do (aIndexAddr .slice 4 s7 s9) fun t34 =>
      Do (loadF true 4 t34) fun t35 =>
      storeA 4 s4 t35 σ_2 fun u_1 σ_3 =>
      Do (loadA true 4 s4 σ_3) fun r4_1 => Q (.ret (.tuple [r4_1, (.val (.bool true)), (.val (.int .i64 0))])) σ_3)
      (Do (aBin Go.Proofs.Try.prog .add 3 s9 (.val (.int .i64 1))) fun t24 =>
    go [s1, s4, s7, t24] σ_2))
      (Do (aLit [.val (.string ⟨#[]⟩), .val (.string ⟨#[]⟩), .val (.bool false), .val (.int .i64 0)] [(0, 1), (1, 1), (2, 1), (3, 1)] []) fun t36 =>
  storeA 4 s4 t36 σ_2 fun u_2 σ_4 =>
  Do (loadA true 4 s4 σ_4) fun r4_2 => Q (.ret (.tuple [r4_2, (.val (.bool false)), (.val (.int .i64 0))])) σ_4))
    [a1, t4, t13, (.val (.int .i64 0))] σ)
theorem ref11_Get.eq (a0 a1 : AV) (σ : Store) (Q : AEnd → Store → Prop) : vc (semOf Go.Proofs.Try.prog ref11_Get.mark) Go.Proofs.Try.f24.ntmps ref11_Get.ann (bodyOf Go.Proofs.Try.f24) (endK [.cell 4 true 4, .tmp 5, .tmp 6] Q) (argFr [a0, a1]) σ = ref11_Get.sh a0 a1 σ Q := by kernel_rfl
theorem ref11_Get.go {a0 a1 : AV} {σ : Store} {Q : AEnd → Store → Prop} (h : ref11_Get.sh a0 a1 σ Q) : ACalls Go.Proofs.Try.prog 24 [a0, a1] σ Q :=
  acalls_of_eq [.cell 4 true 4, .tmp 5, .tmp 6] Go.Proofs.Try.func24 (by kernel_rfl) (by kernel_rfl) (by kernel_rfl) (by kernel_rfl) (ref11_Get.eq a0 a1 σ Q) h
theorem no_key {l : List En} {k : List UInt8} (hr : Rises l) (h : ∀ i, i < l.length → ¬ (l.getD i default).key = k) : hasK l k = false := by
  rw [has_place hr]
  by_cases hp : placeN l k < l.length
  · rw [decide_eq_false (h _ hp), Bool.and_false]
  · rw [decide_eq_false hp, Bool.false_and]
theorem ref11_Get_ok (b k : List UInt8) (hl : b.length ≤ 1000000000) : aPure Go.Proofs.Try.prog 24 [S b, S k] (.tuple [(getF (tblV b) k).av, B (hasK (tblV b) k), I .i64 (tblX b)]) := by
  refine ACalls.fin (ref11_Get.go ?_)
  unfold ref11_Get.sh
  have hr := tblV_rises b
  have h64 := tblV_len b
  have hpl := has_place hr k
  have z0 : (⟨[], [], false, 0⟩ : En) = En.zero := rfl
  by_cases h0 : tblX b = 0
  · obtain ⟨L, hL⟩ : ∃ L, tblV b = L := ⟨_, rfl⟩
    have iP : PC Go.Proofs.Try.prog 22 [S b] True (.tuple [.lst 4 (L.map En.av) .ro, .val (.int .i64 0)]) := ⟨fun _ => by
      have := PC.of (ref11_Parse_ok b hl)
      rw [hL, h0] at this
      exact this⟩
    rw [hL] at hr h64 hpl
    rw [hL, h0]
    repeat' (first | with_reducible apply Stp.go | with_reducible refine imp fun _ => ?_ | (with_reducible refine hyp ?_ ?_; first | assumption | exact leftT_mem (by assumption)) | (with_reducible refine need ?_ ?_; first | trivial | omega | exact ⟨by assumption, by omega⟩ | (simp only [List.length_append, List.length_cons, List.length_nil, List.length_map, List.length_take, List.length_drop, List.length_replicate, List.length_set]; omega)) | (with_reducible refine fact ?_ ?_; first | trivial | exact ⟨rfl, rfl⟩ | kernel_rfl) | with_reducible refine choT (by assumption) ?_ | with_reducible refine choF (by assumption) ?_ | with_reducible refine choF' (by assumption) ?_ | (with_reducible refine altT ?_ ?_; first | omega | (simp only [List.length_append, List.length_cons, List.length_nil, List.length_map, List.length_take, List.length_drop, List.length_replicate, List.length_set]; omega)) | with_reducible refine altF ?_ | with_reducible refine all fun _ => ?_ | with_reducible refine both ?_ ?_ | (with_reducible refine choT ?_ ?_; omega) | (with_reducible refine choF ?_ ?_; omega) | with_reducible refine cho (fun _ => ?_) (fun _ => ?_))
    all_goals first
      | contradiction
      | skip
    rename_i vb
    refine loopI (β := Nat) (fun i => i ≤ L.length ∧ ∀ j, j < i → ¬ (L.getD j default).key = k) (fun i => [S k, ptrAt vb 0, .lst 4 (L.map En.av) .ro, I .i64 (i : Nat)]) (fun _ => [.var vb 52 En.zero.cs]) (fun i => L.length - i) 0 ⟨Nat.zero_le _, by simp⟩ (Sub.refl _ _) ?_
    rintro i ⟨hi, hno⟩
    by_cases hlt : i < L.length
    · repeat' (first | with_reducible apply Stp.go | with_reducible refine imp fun _ => ?_ | (with_reducible refine hyp ?_ ?_; first | assumption | exact leftT_mem (by assumption)) | (with_reducible refine need ?_ ?_; first | trivial | omega | exact ⟨by assumption, by omega⟩ | (simp only [List.length_append, List.length_cons, List.length_nil, List.length_map, List.length_take, List.length_drop, List.length_replicate, List.length_set]; omega)) | (with_reducible refine fact ?_ ?_; first | trivial | exact ⟨rfl, rfl⟩ | kernel_rfl) | with_reducible refine choT (by assumption) ?_ | with_reducible refine choF (by assumption) ?_ | with_reducible refine choF' (by assumption) ?_ | (with_reducible refine altT ?_ ?_; first | omega | (simp only [List.length_append, List.length_cons, List.length_nil, List.length_map, List.length_take, List.length_drop, List.length_replicate, List.length_set]; omega)) | with_reducible refine altF ?_ | with_reducible refine all fun _ => ?_ | with_reducible refine both ?_ ?_ | (with_reducible refine choT ?_ ?_; omega) | (with_reducible refine choF ?_ ?_; omega) | with_reducible refine cho (fun _ => ?_) (fun _ => ?_))
      · rename_i h
        have hps := place_self hr hlt
        rw [h] at hps
        have hh : hasK L k = true := by rw [hpl, hps, decide_eq_true hlt, decide_eq_true h]; rfl
        have hF : getF L k = L.getD i default := by rw [getF, if_pos hh, hps]
        exact ⟨_, _, _, rfl, Sub.app_nil _, by rw [hF, hh], rfl⟩
      · rename_i h
        exact again (i + 1) (by omega) ⟨by omega, fun j hj => by
          by_cases e : j = i
          · rw [e]; exact h
          · exact hno j (by omega)⟩ (Sub.refl _ _)
    · have hh : hasK L k = false := no_key hr fun j hj => hno j (by omega)
      have hF : getF L k = En.zero := by rw [getF, if_neg (by rw [hh]; decide)]
      repeat' (first | with_reducible apply Stp.go | with_reducible refine imp fun _ => ?_ | (with_reducible refine hyp ?_ ?_; first | assumption | exact leftT_mem (by assumption)) | (with_reducible refine need ?_ ?_; first | trivial | omega | exact ⟨by assumption, by omega⟩ | (simp only [List.length_append, List.length_cons, List.length_nil, List.length_map, List.length_take, List.length_drop, List.length_replicate, List.length_set]; omega)) | (with_reducible refine fact ?_ ?_; first | trivial | exact ⟨rfl, rfl⟩ | kernel_rfl) | with_reducible refine choT (by assumption) ?_ | with_reducible refine choF (by assumption) ?_ | with_reducible refine choF' (by assumption) ?_ | (with_reducible refine altT ?_ ?_; first | omega | (simp only [List.length_append, List.length_cons, List.length_nil, List.length_map, List.length_take, List.length_drop, List.length_replicate, List.length_set]; omega)) | with_reducible refine altF ?_ | with_reducible refine all fun _ => ?_ | with_reducible refine both ?_ ?_ | (with_reducible refine choT ?_ ?_; omega) | (with_reducible refine choF ?_ ?_; omega) | with_reducible refine cho (fun _ => ?_) (fun _ => ?_))
      exact ⟨_, _, _, rfl, Sub.app_nil _, by rw [hF, hh]; rfl, rfl⟩
  · obtain ⟨h2, h3⟩ := tblX_two b h0
    rw [h3] at hpl
    have hk : hasK [] k = false := by rw [hpl]; rfl
    have hF : getF [] k = En.zero := by rw [getF, if_neg (by rw [hk]; decide)]
    have iP : PC Go.Proofs.Try.prog 22 [S b] True (.tuple [.lst 4 (([] : List En).map En.av) .ro, .val (.int .i64 2)]) := ⟨fun _ => by
      have := PC.of (ref11_Parse_ok b hl)
      rw [h3, h2] at this
      exact this⟩
    rw [h3, h2, hF, hk]
    repeat' (first | with_reducible apply Stp.go | with_reducible refine imp fun _ => ?_ | (with_reducible refine hyp ?_ ?_; first | assumption | exact leftT_mem (by assumption)) | (with_reducible refine need ?_ ?_; first | trivial | omega | exact ⟨by assumption, by omega⟩ | (simp only [List.length_append, List.length_cons, List.length_nil, List.length_map, List.length_take, List.length_drop, List.length_replicate, List.length_set]; omega)) | (with_reducible refine fact ?_ ?_; first | trivial | exact ⟨rfl, rfl⟩ | kernel_rfl) | with_reducible refine choT (by assumption) ?_ | with_reducible refine choF (by assumption) ?_ | with_reducible refine choF' (by assumption) ?_ | (with_reducible refine altT ?_ ?_; first | omega | (simp only [List.length_append, List.length_cons, List.length_nil, List.length_map, List.length_take, List.length_drop, List.length_replicate, List.length_set]; omega)) | with_reducible refine altF ?_ | with_reducible refine all fun _ => ?_ | with_reducible refine both ?_ ?_ | (with_reducible refine choT ?_ ?_; omega) | (with_reducible refine choF ?_ ?_; omega) | with_reducible refine cho (fun _ => ?_) (fun _ => ?_))
    all_goals first
      | contradiction
      | exact ⟨_, _, _, rfl, Sub.app_nil _, rfl, rfl⟩
      | trace_state
end Go.Ab

/- Layer 11: TableParses. -/
set_option linter.unusedVariables false
set_option linter.unusedSimpArgs false
namespace Go.Ab
def law11_TableParses.mark : Mark := ⟨fun t => Nat.beq t 18 || Nat.beq t 29 || Nat.beq t 35 || Nat.beq t 40 || Nat.beq t 44 || Nat.beq t 52, fun t => Nat.beq t 24, fun t => false, fun t => false, fun t => false⟩
def law11_TableParses.ann : Ann := ⟨fun n => [], fun n => none, fun n => none⟩
/-- 'marlstone/marlstonelaw11.TableParses' -/
def law11_TableParses.sh (a0 a1 : AV) (σ : Store) (Q : AEnd → Store → Prop) : Prop :=
  Do (aPureC Go.Proofs.Try.prog 11 []) fun t18 =>
  Do (aBuiltin Go.Proofs.Try.prog .len #[25] [a0]) fun t21 =>
  Do (aBuiltin Go.Proofs.Try.prog .min #[3, 3] [t21, (.val (.int .i64 8000))]) fun t22 =>
  Do (aSlice .slice 1 a0 none (some t22) none) fun t23 =>
  aRowL 5 (mkE [.val (.int .u8 0)]) 1 0 [] σ fun t24 σ =>
  aAppend 5 1 1 t24 t23 σ (subF fun t26 σ_1 =>
  Do (aPureC Go.Proofs.Try.prog 21 [t26]) fun t29 =>
  Do (aExt t29 0) fun t30 =>
  Do (aExt t29 1) fun t31 =>
  Do (aConvBS t23) fun t34 =>
  Do (aPureC Go.Proofs.Try.prog 22 [t34]) fun t35 =>
  Do (aExt t35 0) fun t36 =>
  Do (aExt t35 1) fun t37 =>
  Do (aPureC Go.Proofs.Try.prog 19 [t30, t36]) fun t40 =>
  Do (aPureC Go.Proofs.Try.prog 23 [t26, a1]) fun t44 =>
  Do (aExt t44 0) fun t45 =>
  Do (aExt t44 1) fun t46 =>
  Do (aExt t44 2) fun t47 =>
  aNewVar 52 [.val (.string ⟨#[]⟩), .val (.string ⟨#[]⟩), .val (.bool false), .val (.int .i64 0)] σ_1 fun t12 σ_2 =>
  storeA 4 t12 t45 σ_2 fun u σ_3 =>
  Do (aConvBS t23) fun t50 =>
  Do (aPureC Go.Proofs.Try.prog 24 [t50, a1]) fun t52 =>
  Do (aExt t52 0) fun t53 =>
  Do (aExt t52 1) fun t54 =>
  Do (aExt t52 2) fun t55 =>
  aNewVar 52 [.val (.string ⟨#[]⟩), .val (.string ⟨#[]⟩), .val (.bool false), .val (.int .i64 0)] σ_3 fun t15 σ_4 =>
  storeA 4 t15 t53 σ_4 fun u_1 σ_5 =>
  Do (aGuard t18 true (aIs t40)) fun t58 =>
  Do (aPick t18 t58 (.val (.bool false))) fun t59 =>
  Do (aGuard t59 true (aIs t31)) fun t61 =>
  Do (aGuard t59 true (aIs t37)) fun t62 =>
  Do (aGuard t59 true (aBin Go.Proofs.Try.prog .eql 26 t61 t62)) fun t63 =>
  Do (aPick t59 t63 (.val (.bool false))) fun t64 =>
  Do (aGuard t64 true (loadA true 4 t12 σ_5)) fun t66 =>
  Do (aGuard t64 true (loadA true 4 t15 σ_5)) fun t67 =>
  Do (aGuard t64 true (aBin Go.Proofs.Try.prog .eql 52 t66 t67)) fun t68 =>
  Do (aPick t64 t68 (.val (.bool false))) fun t69 =>
  Do (aGuard t69 true (aIs t46)) fun t71 =>
  Do (aGuard t69 true (aIs t54)) fun t72 =>
  Do (aGuard t69 true (aBin Go.Proofs.Try.prog .eql 4 t71 t72)) fun t73 =>
  Do (aPick t69 t73 (.val (.bool false))) fun t74 =>
  Do (aGuard t74 true (aIs t47)) fun t76 =>
  Do (aGuard t74 true (aIs t55)) fun t77 =>
  Do (aGuard t74 true (aBin Go.Proofs.Try.prog .eql 26 t76 t77)) fun t78 =>
  Do (aPick t74 t78 (.val (.bool false))) fun t79 =>
  Do (aGuard t79 true (aIs t26)) fun t81 =>
  Do (aGuard t79 true (aConvBS t81)) fun t82 =>
  Do (aGuard t79 true (aIs t23)) fun t83 =>
  Do (aGuard t79 true (aConvBS t83)) fun t84 =>
  Do (aGuard t79 true (aBin Go.Proofs.Try.prog .eql 9 t82 t84)) fun t85 =>
  Do (aPick t79 t85 (.val (.bool false))) fun t86 =>
  Q (.ret t86) σ_5)
theorem law11_TableParses.eq (a0 a1 : AV) (σ : Store) (Q : AEnd → Store → Prop) : vc (semOf Go.Proofs.Try.prog law11_TableParses.mark) Go.Proofs.Try.f5.ntmps law11_TableParses.ann (bodyOf Go.Proofs.Try.f5) (endK [.tmp 4] Q) (argFr [a0, a1]) σ = law11_TableParses.sh a0 a1 σ Q := by kernel_rfl
theorem law11_TableParses.go {a0 a1 : AV} {σ : Store} {Q : AEnd → Store → Prop} (h : law11_TableParses.sh a0 a1 σ Q) : ACalls Go.Proofs.Try.prog 5 [a0, a1] σ Q :=
  acalls_of_eq [.tmp 4] Go.Proofs.Try.func5 (by kernel_rfl) (by kernel_rfl) (by kernel_rfl) (by kernel_rfl) (law11_TableParses.eq a0 a1 σ Q) h
theorem TableParses_ok (b0 : List UInt8) (m : SM) (k : List UInt8) (hl : b0.length ≤ 140737488355328) (hk : k.length ≤ 140737488355328) : aPure Go.Proofs.Try.prog 5 [.lst 1 (b0.map byt) m, S k] (B true) := by
  refine ACalls.fin (law11_TableParses.go ?_)
  unfold law11_TableParses.sh
  obtain ⟨b, hb⟩ : ∃ b, b0.take (min b0.length 8000) = b := ⟨_, rfl⟩
  have hbl : b.length ≤ 8000 := by rw [← hb]; simp only [List.length_take]; exact Nat.le_trans (Nat.min_le_left _ _) (Nat.min_le_right _ _)
  have hmn : min b0.length 8000 ≤ b0.length := Nat.min_le_left _ _
  have h64 := tblV_len b
  have hb1 : [] ++ b0.take (min b0.length 8000) = b := by rw [List.nil_append, hb]
  have i1 : PC Go.Proofs.Try.prog 21 [.lst 1 (([] ++ b0.take (min b0.length 8000)).map byt) .ro] True (.tuple [.lst 4 ((tblV b).map En.av) .ro, I .i64 (tblX b)]) := ⟨fun _ => by rw [hb1]; exact PC.of (tParse_ok b .ro (by omega))⟩
  have i2 : PC Go.Proofs.Try.prog 23 [.lst 1 (([] ++ b0.take (min b0.length 8000)).map byt) .ro, S k] True (.tuple [(getF (tblV b) k).av, B (hasK (tblV b) k), I .i64 (tblX b)]) := ⟨fun _ => by rw [hb1]; exact PC.of (tGet_ok b .ro k (by omega))⟩
  have i3 : PC Go.Proofs.Try.prog 22 [S (b0.take (min b0.length 8000))] True (.tuple [.lst 4 ((tblV b).map En.av) .ro, I .i64 (tblX b)]) := ⟨fun _ => by rw [hb]; exact PC.of (ref11_Parse_ok b (by omega))⟩
  have i4 : PC Go.Proofs.Try.prog 24 [S (b0.take (min b0.length 8000)), S k] True (.tuple [(getF (tblV b) k).av, B (hasK (tblV b) k), I .i64 (tblX b)]) := ⟨fun _ => by rw [hb]; exact PC.of (ref11_Get_ok b k (by omega))⟩
  repeat' (first | with_reducible apply Stp.go | with_reducible refine imp fun _ => ?_ | (with_reducible refine hyp ?_ ?_; first | assumption | exact leftT_mem (by assumption)) | (with_reducible refine need ?_ ?_; first | trivial | omega | exact ⟨by assumption, by omega⟩ | (simp only [List.length_append, List.length_cons, List.length_nil, List.length_map, List.length_take, List.length_drop, List.length_replicate, List.length_set]; omega)) | (with_reducible refine fact ?_ ?_; first | trivial | exact ⟨rfl, rfl⟩ | kernel_rfl) | with_reducible refine choT (by assumption) ?_ | with_reducible refine choF (by assumption) ?_ | with_reducible refine choF' (by assumption) ?_ | (with_reducible refine altT ?_ ?_; first | omega | (simp only [List.length_append, List.length_cons, List.length_nil, List.length_map, List.length_take, List.length_drop, List.length_replicate, List.length_set]; omega)) | with_reducible refine altF ?_ | with_reducible refine all fun _ => ?_ | with_reducible refine both ?_ ?_ | (with_reducible refine choT ?_ ?_; omega) | (with_reducible refine choF ?_ ?_; omega) | with_reducible refine cho (fun _ => ?_) (fun _ => ?_))
  all_goals first
    | contradiction
    | (exfalso; rename_i h; exact h rfl)
    | exact ⟨_, _, _, rfl, Sub.app_nil _, rfl, rfl⟩
    | (rw [List.nil_append, decide_eq_true rfl]; exact ⟨_, _, _, rfl, Sub.app_nil _, rfl, rfl⟩)
    | trace_state
end Go.Ab
