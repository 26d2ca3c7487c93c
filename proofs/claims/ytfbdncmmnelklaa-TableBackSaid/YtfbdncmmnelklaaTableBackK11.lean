/- The texts that this claim needs, part 11: a logic over abstract values, its steps, what the functions do. No condition of its own. -/
import Derived.Laws.Externs
import Derived.Test.YtfbdncmmnelklaaTableBackK10
/- A place halved out. -/
set_option linter.unusedVariables false
set_option linter.unusedSimpArgs false
namespace Go.Ab
theorem cmpstring_ok (a b : List UInt8) : aPureC Go.Proofs.Try.prog 94 [S a, S b] (I .i64 (cmpK a b)) := by
  refine .inr ⟨[.string ⟨a.toArray⟩, .string ⟨b.toArray⟩], .int .i64 (cmpK a b), rfl, rfl, fun w => ?_⟩
  rw [run_callFunc_extern Go.Proofs.Try.func94 (by kernel_rfl) (by kernel_rfl) (by kernel_rfl) (e := Extern.BytealgCompare.compare) (by kernel_rfl)]
  rw [show ([Value.string ⟨a.toArray⟩, Value.string ⟨b.toArray⟩] : List Value).toArray = #[.string ⟨a.toArray⟩, .string ⟨b.toArray⟩] from rfl, Lib.run_compareString, compare_cmpK]
  rfl
instance (a b : List UInt8) : XC Go.Proofs.Try.prog 94 [S a, S b] (I .i64 (cmpK a b)) := ⟨cmpstring_ok a b⟩
def internal_bytealg_CompareString.mark : Mark := ⟨fun t => Nat.beq t 7, fun t => false, fun t => false, fun t => false, fun t => false⟩
def internal_bytealg_CompareString.ann : Ann := ⟨fun n => [], fun n => none, fun n => none⟩
/-- 'internal/bytealg.CompareString' -/
def internal_bytealg_CompareString.sh (a0 a1 : AV) (σ : Store) (Q : AEnd → Store → Prop) : Prop :=
  Do (aPureC Go.Proofs.Try.prog 94 [a0, a1]) fun t7 =>
  Q (.ret t7) σ
theorem internal_bytealg_CompareString.eq (a0 a1 : AV) (σ : Store) (Q : AEnd → Store → Prop) : vc (semOf Go.Proofs.Try.prog internal_bytealg_CompareString.mark) Go.Proofs.Try.f81.ntmps internal_bytealg_CompareString.ann (bodyOf Go.Proofs.Try.f81) (endK [.tmp 4] Q) (argFr [a0, a1]) σ = internal_bytealg_CompareString.sh a0 a1 σ Q := by kernel_rfl
theorem internal_bytealg_CompareString.go {a0 a1 : AV} {σ : Store} {Q : AEnd → Store → Prop} (h : internal_bytealg_CompareString.sh a0 a1 σ Q) : ACalls Go.Proofs.Try.prog 81 [a0, a1] σ Q :=
  acalls_of_eq [.tmp 4] Go.Proofs.Try.func81 (by kernel_rfl) (by kernel_rfl) (by kernel_rfl) (by kernel_rfl) (internal_bytealg_CompareString.eq a0 a1 σ Q) h
def strings_Compare.mark : Mark := ⟨fun t => Nat.beq t 7, fun t => false, fun t => false, fun t => false, fun t => false⟩
def strings_Compare.ann : Ann := ⟨fun n => [], fun n => none, fun n => none⟩
/-- 'strings.Compare' -/
def strings_Compare.sh (a0 a1 : AV) (σ : Store) (Q : AEnd → Store → Prop) : Prop :=
  Do (aPureC Go.Proofs.Try.prog 81 [a0, a1]) fun t7 =>
  Q (.ret t7) σ
theorem strings_Compare.eq (a0 a1 : AV) (σ : Store) (Q : AEnd → Store → Prop) : vc (semOf Go.Proofs.Try.prog strings_Compare.mark) Go.Proofs.Try.f56.ntmps strings_Compare.ann (bodyOf Go.Proofs.Try.f56) (endK [.tmp 4] Q) (argFr [a0, a1]) σ = strings_Compare.sh a0 a1 σ Q := by kernel_rfl
theorem strings_Compare.go {a0 a1 : AV} {σ : Store} {Q : AEnd → Store → Prop} (h : strings_Compare.sh a0 a1 σ Q) : ACalls Go.Proofs.Try.prog 56 [a0, a1] σ Q :=
  acalls_of_eq [.tmp 4] Go.Proofs.Try.func56 (by kernel_rfl) (by kernel_rfl) (by kernel_rfl) (by kernel_rfl) (strings_Compare.eq a0 a1 σ Q) h
def slices_BinarySearchFunc.mark : Mark := ⟨fun t => Nat.beq t 30 || Nat.beq t 46, fun t => false, fun t => false, fun t => Nat.beq t 28 || Nat.beq t 44, fun t => false⟩
def slices_BinarySearchFunc.ann : Ann := ⟨fun n => bif Nat.beq n 3 then [0, 1, 2, 8, 9, 10] else [], fun n => none, fun n => none⟩
/-- 'slices.BinarySearchFunc[[]marlstone/api.Entry,marlstone/api.Entry,string]' -/
def slices_BinarySearchFunc.sh (a0 a1 a2 : AV) (σ : Store) (Q : AEnd → Store → Prop) : Prop :=
  Do (aBuiltin Go.Proofs.Try.prog .len #[22] [a0]) fun t13 =>
  aLoop (fun go vs σ =>
    At vs 0 fun s0 => At vs 1 fun s1 => At vs 2 fun s2 => At vs 3 fun s8 => At vs 4 fun s9 => At vs 5 fun s10 => Do (aBin Go.Proofs.Try.prog .lss 3 s9 s10) fun t17 =>
    aCond t17
      (Do (aBin Go.Proofs.Try.prog .add 3 s9 s10) fun t20 =>
    Do (fun x => aConvN 3 103 t20 x Go.Proofs.Try.prog) fun t21 =>
    Do (aBin Go.Proofs.Try.prog .shr 103 t21 (W64 1)) fun t22 =>
    Do (fun x => aConvN 103 3 t22 x Go.Proofs.Try.prog) fun t23 =>
    Do (aIndexAddr .slice 4 s0 t23) fun t27 =>
    Do (loadF true 4 t27) fun t28 =>
    Do (aPureV Go.Proofs.Try.prog s2 [t28, s1]) fun t30 =>
    Do (aBin Go.Proofs.Try.prog .lss 3 t30 (.val (.int .i64 0))) fun t31 =>
    aCond t31
      (Do (aBin Go.Proofs.Try.prog .add 3 t23 (.val (.int .i64 1))) fun t33 =>
      go [s0, s1, s2, s8, t33, s10] σ)
      (go [s0, s1, s2, s8, s9, t23] σ))
      (Do (aBin Go.Proofs.Try.prog .lss 3 s9 s8) fun t38 =>
  Do (aGuard t38 true (aIs s2)) fun t40 =>
  Do (aGuard t38 true (aIs s0)) fun t41 =>
  Do (aGuard t38 true (aIs s9)) fun t42 =>
  Do (aGuard t38 true (aIndexAddr .slice 4 t41 t42)) fun t43 =>
  Do (aGuard t38 true (loadF true 4 t43)) fun t44 =>
  Do (aGuard t38 true (aIs s1)) fun t45 =>
  Do (aGuard t38 true (aPureV Go.Proofs.Try.prog t40 [t44, t45])) fun t46 =>
  Do (aGuard t38 true (aBin Go.Proofs.Try.prog .eql 3 t46 (.val (.int .i64 0)))) fun t47 =>
  Do (aPick t38 t47 (.val (.bool false))) fun t48 =>
  Q (.ret (.tuple [s9, t48])) σ))
    [a0, a1, a2, t13, (.val (.int .i64 0)), t13] σ
theorem slices_BinarySearchFunc.eq (a0 a1 a2 : AV) (σ : Store) (Q : AEnd → Store → Prop) : vc (semOf Go.Proofs.Try.prog slices_BinarySearchFunc.mark) Go.Proofs.Try.f54.ntmps slices_BinarySearchFunc.ann (bodyOf Go.Proofs.Try.f54) (endK [.tmp 6, .tmp 7] Q) (argFr [a0, a1, a2]) σ = slices_BinarySearchFunc.sh a0 a1 a2 σ Q := by kernel_rfl
theorem slices_BinarySearchFunc.go {a0 a1 a2 : AV} {σ : Store} {Q : AEnd → Store → Prop} (h : slices_BinarySearchFunc.sh a0 a1 a2 σ Q) : ACalls Go.Proofs.Try.prog 54 [a0, a1, a2] σ Q :=
  acalls_of_eq [.tmp 6, .tmp 7] Go.Proofs.Try.func54 (by kernel_rfl) (by kernel_rfl) (by kernel_rfl) (by kernel_rfl) (slices_BinarySearchFunc.eq a0 a1 a2 σ Q) h
theorem CompareString_ok (a b : List UInt8) : aPure Go.Proofs.Try.prog 81 [S a, S b] (I .i64 (cmpK a b)) := by
  refine internal_bytealg_CompareString.go ?_
  unfold internal_bytealg_CompareString.sh
  repeat' (first | with_reducible apply Stp.go | with_reducible refine imp fun _ => ?_ | (with_reducible refine hyp ?_ ?_; first | assumption | exact leftT_mem (by assumption)) | (with_reducible refine need ?_ ?_; first | trivial | omega | exact ⟨by assumption, by omega⟩ | (simp only [List.length_append, List.length_cons, List.length_nil, List.length_map, List.length_take, List.length_drop, List.length_replicate, List.length_set]; omega)) | (with_reducible refine fact ?_ ?_; first | trivial | exact ⟨rfl, rfl⟩ | kernel_rfl) | with_reducible refine choT (by assumption) ?_ | with_reducible refine choF (by assumption) ?_ | with_reducible refine choF' (by assumption) ?_ | (with_reducible refine altT ?_ ?_; first | omega | (simp only [List.length_append, List.length_cons, List.length_nil, List.length_map, List.length_take, List.length_drop, List.length_replicate, List.length_set]; omega)) | with_reducible refine altF ?_ | with_reducible refine all fun _ => ?_ | with_reducible refine both ?_ ?_ | (with_reducible refine choT ?_ ?_; omega) | (with_reducible refine choF ?_ ?_; omega) | with_reducible refine cho (fun _ => ?_) (fun _ => ?_))
  exact ⟨rfl, rfl⟩
instance (a b : List UInt8) : PC Go.Proofs.Try.prog 81 [S a, S b] True (I .i64 (cmpK a b)) := ⟨fun _ => PC.of (CompareString_ok a b)⟩
theorem strings_Compare_ok (a b : List UInt8) : aPure Go.Proofs.Try.prog 56 [S a, S b] (I .i64 (cmpK a b)) := by
  refine strings_Compare.go ?_
  unfold strings_Compare.sh
  repeat' (first | with_reducible apply Stp.go | with_reducible refine imp fun _ => ?_ | (with_reducible refine hyp ?_ ?_; first | assumption | exact leftT_mem (by assumption)) | (with_reducible refine need ?_ ?_; first | trivial | omega | exact ⟨by assumption, by omega⟩ | (simp only [List.length_append, List.length_cons, List.length_nil, List.length_map, List.length_take, List.length_drop, List.length_replicate, List.length_set]; omega)) | (with_reducible refine fact ?_ ?_; first | trivial | exact ⟨rfl, rfl⟩ | kernel_rfl) | with_reducible refine choT (by assumption) ?_ | with_reducible refine choF (by assumption) ?_ | with_reducible refine choF' (by assumption) ?_ | (with_reducible refine altT ?_ ?_; first | omega | (simp only [List.length_append, List.length_cons, List.length_nil, List.length_map, List.length_take, List.length_drop, List.length_replicate, List.length_set]; omega)) | with_reducible refine altF ?_ | with_reducible refine all fun _ => ?_ | with_reducible refine both ?_ ?_ | (with_reducible refine choT ?_ ?_; omega) | (with_reducible refine choF ?_ ?_; omega) | with_reducible refine cho (fun _ => ?_) (fun _ => ?_))
  exact ⟨rfl, rfl⟩
instance (a b : List UInt8) : PC Go.Proofs.Try.prog 56 [S a, S b] True (I .i64 (cmpK a b)) := ⟨fun _ => PC.of (strings_Compare_ok a b)⟩
theorem half_ok {n : Nat} (h : n < 18446744073709551616) : (UInt64.ofNat n >>> UInt64.ofNat 1).toNat = n / 2 := by
  rw [UInt64.toNat_shiftRight, u64_len h]
  simp [Nat.shiftRight_eq_div_pow]
theorem Search_ok (l : List En) (m : SM) (k : List UInt8) (g : FuncId) (hg : ∀ e : En, aPure Go.Proofs.Try.prog g [e.av, S k] (I .i64 (cmpK e.key k))) (hr : Rises l) (hl : l.length ≤ 1000000000000) :
    aPure Go.Proofs.Try.prog 54 [.lst 4 (l.map En.av) m, S k, .val (.func (.func g) #[] #[])] (.tuple [I .i64 (placeN l k : Nat), B (hasK l k)]) := by
  have inst : ∀ e : En, PC Go.Proofs.Try.prog g [e.av, S k] True (I .i64 (cmpK e.key k)) := fun e => ⟨fun _ => PC.of (hg e)⟩
  refine slices_BinarySearchFunc.go ?_
  unfold slices_BinarySearchFunc.sh
  have hp := placeN_le l k
  repeat' (first | with_reducible apply Stp.go | with_reducible refine imp fun _ => ?_ | (with_reducible refine hyp ?_ ?_; first | assumption | exact leftT_mem (by assumption)) | (with_reducible refine need ?_ ?_; first | trivial | omega | exact ⟨by assumption, by omega⟩ | (simp only [List.length_append, List.length_cons, List.length_nil, List.length_map, List.length_take, List.length_drop, List.length_replicate, List.length_set]; omega)) | (with_reducible refine fact ?_ ?_; first | trivial | exact ⟨rfl, rfl⟩ | kernel_rfl) | with_reducible refine choT (by assumption) ?_ | with_reducible refine choF (by assumption) ?_ | with_reducible refine choF' (by assumption) ?_ | (with_reducible refine altT ?_ ?_; first | omega | (simp only [List.length_append, List.length_cons, List.length_nil, List.length_map, List.length_take, List.length_drop, List.length_replicate, List.length_set]; omega)) | with_reducible refine altF ?_ | with_reducible refine all fun _ => ?_ | with_reducible refine both ?_ ?_ | (with_reducible refine choT ?_ ?_; omega) | (with_reducible refine choF ?_ ?_; omega) | with_reducible refine cho (fun _ => ?_) (fun _ => ?_))
  refine loopI (β := Nat × Nat) (fun x => x.1 ≤ placeN l k ∧ placeN l k ≤ x.2 ∧ x.2 ≤ l.length) (fun x => [.lst 4 (l.map En.av) m, S k, .val (.func (.func g) #[] #[]), I .i64 (l.length : Nat), I .i64 (x.1 : Nat), I .i64 (x.2 : Nat)]) (fun _ => []) (fun x => x.2 - x.1) (0, l.length) ⟨Nat.zero_le _, hp, Nat.le_refl _⟩ (Sub.refl _ _) ?_
  rintro ⟨i, j⟩ ⟨h1, h2, h3⟩
  dsimp only at h1 h2 h3 ⊢
  have hh := half_ok (n := i + j) (by omega)
  repeat' (first | with_reducible apply Stp.go | with_reducible refine imp fun _ => ?_ | (with_reducible refine hyp ?_ ?_; first | assumption | exact leftT_mem (by assumption)) | (with_reducible refine need ?_ ?_; first | trivial | omega | exact ⟨by assumption, by omega⟩ | (simp only [List.length_append, List.length_cons, List.length_nil, List.length_map, List.length_take, List.length_drop, List.length_replicate, List.length_set]; omega)) | (with_reducible refine fact ?_ ?_; first | trivial | exact ⟨rfl, rfl⟩ | kernel_rfl) | with_reducible refine choT (by assumption) ?_ | with_reducible refine choF (by assumption) ?_ | with_reducible refine choF' (by assumption) ?_ | (with_reducible refine altT ?_ ?_; first | omega | (simp only [List.length_append, List.length_cons, List.length_nil, List.length_map, List.length_take, List.length_drop, List.length_replicate, List.length_set]; omega)) | with_reducible refine altF ?_ | with_reducible refine all fun _ => ?_ | with_reducible refine both ?_ ?_ | (with_reducible refine choT ?_ ?_; omega) | (with_reducible refine choF ?_ ?_; omega) | with_reducible refine cho (fun _ => ?_) (fun _ => ?_))
  · rename_i h4 h5
    rw [hh] at h5 ⊢
    rw [cmpK_lt, place_at hr k (by omega)] at h5
    exact again ((i + j) / 2 + 1, j) (by dsimp only; omega) ⟨by dsimp only; omega, h2, h3⟩ (Sub.refl _ _)
  · rename_i h4 h5
    rw [hh] at h5 ⊢
    rw [cmpK_lt, place_at hr k (by omega)] at h5
    exact again (i, (i + j) / 2) (by dsimp only; omega) ⟨h1, by dsimp only; omega, by dsimp only; omega⟩ (Sub.refl _ _)
  · rename_i h4 h5
    have e : i = placeN l k := by omega
    subst e
    have e2 : decide (cmpK (l.getD (placeN l k) default).key k = 0) = hasK l k := by
      rw [has_place hr k, decide_eq_true h5, Bool.true_and]
      simp only [cmpK_zero]
    rw [e2]
    exact ⟨rfl, rfl⟩
  · rename_i h4 h5
    have e : i = placeN l k := by omega
    have e2 : hasK l k = false := by rw [has_place hr k, decide_eq_false (by omega), Bool.false_and]
    rw [e, e2]
    exact ⟨rfl, rfl⟩
end Go.Ab

/- table.Get; TableBack. -/
set_option linter.unusedVariables false
set_option linter.unusedSimpArgs false
namespace Go.Ab
theorem tblV_rises (b : List UInt8) : Rises (tblV b) := by
  unfold tblV
  cases h : tblG b with
  | none => exact List.Pairwise.nil
  | some l => exact (sorted_iff l).1 (fit_right (tblG_fit h).1).2.2.1
theorem tblX_two (b : List UInt8) (h : ¬ tblX b = 0) : tblX b = 2 ∧ tblV b = [] := by
  unfold tblX tblV at *
  cases hG : tblG b with
  | none => exact ⟨rfl, rfl⟩
  | some l => rw [hG] at h; exact absurd rfl h
def table_Get_1.mark : Mark := ⟨fun t => Nat.beq t 8, fun t => false, fun t => Nat.beq t 2, fun t => Nat.beq t 6, fun t => false⟩
def table_Get_1.ann : Ann := ⟨fun n => [], fun n => none, fun n => none⟩
/-- 'marlstone/table.Get$1' -/
def table_Get_1.sh (a0 a1 : AV) (σ : Store) (Q : AEnd → Store → Prop) : Prop :=
  Do (aFreeze ((a0 : AV)).cells) fun t2 =>
  Do (aFieldAddr 0 1 t2) fun t5 =>
  Do (loadF false 1 t5) fun t6 =>
  Do (aPureC Go.Proofs.Try.prog 56 [t6, a1]) fun t8 =>
  Q (.ret t8) σ
theorem table_Get_1.eq (a0 a1 : AV) (σ : Store) (Q : AEnd → Store → Prop) : vc (semOf Go.Proofs.Try.prog table_Get_1.mark) Go.Proofs.Try.f55.ntmps table_Get_1.ann (bodyOf Go.Proofs.Try.f55) (endK [.tmp 4] Q) (argFr [a0, a1]) σ = table_Get_1.sh a0 a1 σ Q := by kernel_rfl
theorem table_Get_1.go {a0 a1 : AV} {σ : Store} {Q : AEnd → Store → Prop} (h : table_Get_1.sh a0 a1 σ Q) : ACalls Go.Proofs.Try.prog 55 [a0, a1] σ Q :=
  acalls_of_eq [.tmp 4] Go.Proofs.Try.func55 (by kernel_rfl) (by kernel_rfl) (by kernel_rfl) (by kernel_rfl) (table_Get_1.eq a0 a1 σ Q) h
theorem Get1_ok (e : En) (k : List UInt8) : aPure Go.Proofs.Try.prog 55 [e.av, S k] (I .i64 (cmpK e.key k)) := by
  refine table_Get_1.go ?_
  unfold table_Get_1.sh
  repeat' (first | with_reducible apply Stp.go | with_reducible refine imp fun _ => ?_ | (with_reducible refine hyp ?_ ?_; first | assumption | exact leftT_mem (by assumption)) | (with_reducible refine need ?_ ?_; first | trivial | omega | exact ⟨by assumption, by omega⟩ | (simp only [List.length_append, List.length_cons, List.length_nil, List.length_map, List.length_take, List.length_drop, List.length_replicate, List.length_set]; omega)) | (with_reducible refine fact ?_ ?_; first | trivial | exact ⟨rfl, rfl⟩ | kernel_rfl) | with_reducible refine choT (by assumption) ?_ | with_reducible refine choF (by assumption) ?_ | with_reducible refine choF' (by assumption) ?_ | (with_reducible refine altT ?_ ?_; first | omega | (simp only [List.length_append, List.length_cons, List.length_nil, List.length_map, List.length_take, List.length_drop, List.length_replicate, List.length_set]; omega)) | with_reducible refine altF ?_ | with_reducible refine all fun _ => ?_ | with_reducible refine both ?_ ?_ | (with_reducible refine choT ?_ ?_; omega) | (with_reducible refine choF ?_ ?_; omega) | with_reducible refine cho (fun _ => ?_) (fun _ => ?_))
  exact ⟨rfl, rfl⟩
def table_Get.mark : Mark := ⟨fun t => Nat.beq t 13 || Nat.beq t 23, fun t => false, fun t => false, fun t => Nat.beq t 32, fun t => false⟩
def table_Get.ann : Ann := ⟨fun n => [], fun n => none, fun n => none⟩
/-- 'marlstone/table.Get' -/
def table_Get.sh (a0 a1 : AV) (σ : Store) (Q : AEnd → Store → Prop) : Prop :=
  aNewVar 52 [.val (.string ⟨#[]⟩), .val (.string ⟨#[]⟩), .val (.bool false), .val (.int .i64 0)] σ fun t4 σ =>
  Do (aPureC Go.Proofs.Try.prog 21 [a0]) fun t13 =>
  Do (aExt t13 0) fun t14 =>
  Do (aExt t13 1) fun t15 =>
  Do (aBin Go.Proofs.Try.prog .neq 26 t15 (.val (.int .i64 0))) fun t17 =>
  aCond t17
    (Do (aLit [.val (.string ⟨#[]⟩), .val (.string ⟨#[]⟩), .val (.bool false), .val (.int .i64 0)] [(0, 1), (1, 1), (2, 1), (3, 1)] []) fun t18 =>
    storeA 4 t4 t18 σ fun u σ_1 =>
    Do (loadA true 4 t4 σ_1) fun r4 => Q (.ret (.tuple [r4, (.val (.bool false)), t15])) σ_1)
    (Do (aPureC Go.Proofs.Try.prog 54 [t14, a1, (.val (.func (.func 55) #[] #[]))]) fun t23 =>
  Do (aExt t23 0) fun t24 =>
  Do (aExt t23 1) fun t25 =>
  Do (aUn Go.Proofs.Try.prog .not t25) fun t27 =>
  aCond t27
    (Do (aLit [.val (.string ⟨#[]⟩), .val (.string ⟨#[]⟩), .val (.bool false), .val (.int .i64 0)] [(0, 1), (1, 1), (2, 1), (3, 1)] []) fun t28 =>
    storeA 4 t4 t28 σ fun u_1 σ_2 =>
    Do (loadA true 4 t4 σ_2) fun r4_1 => Q (.ret (.tuple [r4_1, (.val (.bool false)), (.val (.int .i64 0))])) σ_2)
    (Do (aIndexAddr .slice 4 t14 t24) fun t31 =>
  Do (loadF true 4 t31) fun t32 =>
  storeA 4 t4 t32 σ fun u_2 σ_3 =>
  Do (loadA true 4 t4 σ_3) fun r4_2 => Q (.ret (.tuple [r4_2, (.val (.bool true)), (.val (.int .i64 0))])) σ_3))
theorem table_Get.eq (a0 a1 : AV) (σ : Store) (Q : AEnd → Store → Prop) : vc (semOf Go.Proofs.Try.prog table_Get.mark) Go.Proofs.Try.f23.ntmps table_Get.ann (bodyOf Go.Proofs.Try.f23) (endK [.cell 4 true 4, .tmp 5, .tmp 6] Q) (argFr [a0, a1]) σ = table_Get.sh a0 a1 σ Q := by kernel_rfl
theorem table_Get.go {a0 a1 : AV} {σ : Store} {Q : AEnd → Store → Prop} (h : table_Get.sh a0 a1 σ Q) : ACalls Go.Proofs.Try.prog 23 [a0, a1] σ Q :=
  acalls_of_eq [.cell 4 true 4, .tmp 5, .tmp 6] Go.Proofs.Try.func23 (by kernel_rfl) (by kernel_rfl) (by kernel_rfl) (by kernel_rfl) (table_Get.eq a0 a1 σ Q) h
/-- A key's entry. -/
def getF (l : List En) (k : List UInt8) : En := if hasK l k = true then l.getD (placeN l k) default else En.zero
theorem tGet_ok (b : List UInt8) (m : SM) (k : List UInt8) (hl : b.length ≤ 1000000000) : aPure Go.Proofs.Try.prog 23 [.lst 1 (b.map byt) m, S k] (.tuple [(getF (tblV b) k).av, B (hasK (tblV b) k), I .i64 (tblX b)]) := by
  refine ACalls.fin (table_Get.go ?_)
  unfold table_Get.sh
  have hr := tblV_rises b
  have h64 := tblV_len b
  have hpl := has_place hr k
  have z0 : (⟨[], [], false, 0⟩ : En) = En.zero := rfl
  by_cases h0 : tblX b = 0
  · cases hk : hasK (tblV b) k with
    | true =>
      have hlt : placeN (tblV b) k < (tblV b).length := by
        rw [hk] at hpl
        simp only [Bool.true_eq, Bool.and_eq_true, decide_eq_true_eq] at hpl
        exact hpl.1
      have hF : getF (tblV b) k = (tblV b).getD (placeN (tblV b) k) default := by rw [getF, if_pos hk]
      rw [hF, h0]
      have iS : PC Go.Proofs.Try.prog 54 [.lst 4 ((tblV b).map En.av) .ro, S k, .val (.func (.func 55) #[] #[])] True (.tuple [I .i64 (placeN (tblV b) k : Nat), B true]) := ⟨fun _ => by
        have := PC.of (Search_ok (tblV b) .ro k _ (fun e => Get1_ok e k) hr (by omega))
        rw [hk] at this
        exact this⟩
      repeat' (first | with_reducible apply Stp.go | with_reducible refine imp fun _ => ?_ | (with_reducible refine hyp ?_ ?_; first | assumption | exact leftT_mem (by assumption)) | (with_reducible refine need ?_ ?_; first | trivial | omega | exact ⟨by assumption, by omega⟩ | (simp only [List.length_append, List.length_cons, List.length_nil, List.length_map, List.length_take, List.length_drop, List.length_replicate, List.length_set]; omega)) | (with_reducible refine fact ?_ ?_; first | trivial | exact ⟨rfl, rfl⟩ | kernel_rfl) | with_reducible refine choT (by assumption) ?_ | with_reducible refine choF (by assumption) ?_ | with_reducible refine choF' (by assumption) ?_ | (with_reducible refine altT ?_ ?_; first | omega | (simp only [List.length_append, List.length_cons, List.length_nil, List.length_map, List.length_take, List.length_drop, List.length_replicate, List.length_set]; omega)) | with_reducible refine altF ?_ | with_reducible refine all fun _ => ?_ | with_reducible refine both ?_ ?_ | (with_reducible refine choT ?_ ?_; omega) | (with_reducible refine choF ?_ ?_; omega) | with_reducible refine cho (fun _ => ?_) (fun _ => ?_))
      all_goals first
        | contradiction
        | exact ⟨_, _, _, rfl, Sub.app_nil _, rfl, rfl⟩
        | trace_state
    | false =>
      have hF : getF (tblV b) k = En.zero := by rw [getF, if_neg (by rw [hk]; decide)]
      rw [hF, h0]
      have iS : PC Go.Proofs.Try.prog 54 [.lst 4 ((tblV b).map En.av) .ro, S k, .val (.func (.func 55) #[] #[])] True (.tuple [I .i64 (placeN (tblV b) k : Nat), B false]) := ⟨fun _ => by
        have := PC.of (Search_ok (tblV b) .ro k _ (fun e => Get1_ok e k) hr (by omega))
        rw [hk] at this
        exact this⟩
      repeat' (first | with_reducible apply Stp.go | with_reducible refine imp fun _ => ?_ | (with_reducible refine hyp ?_ ?_; first | assumption | exact leftT_mem (by assumption)) | (with_reducible refine need ?_ ?_; first | trivial | omega | exact ⟨by assumption, by omega⟩ | (simp only [List.length_append, List.length_cons, List.length_nil, List.length_map, List.length_take, List.length_drop, List.length_replicate, List.length_set]; omega)) | (with_reducible refine fact ?_ ?_; first | trivial | exact ⟨rfl, rfl⟩ | kernel_rfl) | with_reducible refine choT (by assumption) ?_ | with_reducible refine choF (by assumption) ?_ | with_reducible refine choF' (by assumption) ?_ | (with_reducible refine altT ?_ ?_; first | omega | (simp only [List.length_append, List.length_cons, List.length_nil, List.length_map, List.length_take, List.length_drop, List.length_replicate, List.length_set]; omega)) | with_reducible refine altF ?_ | with_reducible refine all fun _ => ?_ | with_reducible refine both ?_ ?_ | (with_reducible refine choT ?_ ?_; omega) | (with_reducible refine choF ?_ ?_; omega) | with_reducible refine cho (fun _ => ?_) (fun _ => ?_))
      all_goals first
        | contradiction
        | exact ⟨_, _, _, rfl, Sub.app_nil _, rfl, rfl⟩
        | trace_state
  · obtain ⟨h2, h3⟩ := tblX_two b h0
    rw [h3] at hpl
    have hk : hasK [] k = false := by rw [hpl]; rfl
    have hF : getF [] k = En.zero := by rw [getF, if_neg (by rw [hk]; decide)]
    have iP : PC Go.Proofs.Try.prog 21 [.lst 1 (b.map byt) m] True (.tuple [.lst 4 (([] : List En).map En.av) .ro, .val (.int .i64 2)]) := ⟨fun _ => by
      have := PC.of (tParse_ok b m hl)
      rw [h3, h2] at this
      exact this⟩
    rw [h3, h2, hF, hk]
    repeat' (first | with_reducible apply Stp.go | with_reducible refine imp fun _ => ?_ | (with_reducible refine hyp ?_ ?_; first | assumption | exact leftT_mem (by assumption)) | (with_reducible refine need ?_ ?_; first | trivial | omega | exact ⟨by assumption, by omega⟩ | (simp only [List.length_append, List.length_cons, List.length_nil, List.length_map, List.length_take, List.length_drop, List.length_replicate, List.length_set]; omega)) | (with_reducible refine fact ?_ ?_; first | trivial | exact ⟨rfl, rfl⟩ | kernel_rfl) | with_reducible refine choT (by assumption) ?_ | with_reducible refine choF (by assumption) ?_ | with_reducible refine choF' (by assumption) ?_ | (with_reducible refine altT ?_ ?_; first | omega | (simp only [List.length_append, List.length_cons, List.length_nil, List.length_map, List.length_take, List.length_drop, List.length_replicate, List.length_set]; omega)) | with_reducible refine altF ?_ | with_reducible refine all fun _ => ?_ | with_reducible refine both ?_ ?_ | (with_reducible refine choT ?_ ?_; omega) | (with_reducible refine choF ?_ ?_; omega) | with_reducible refine cho (fun _ => ?_) (fun _ => ?_))
    all_goals first
      | contradiction
      | exact ⟨_, _, _, rfl, Sub.app_nil _, rfl, rfl⟩
      | trace_state
end Go.Ab

/- Layer 11: TableBack. -/
set_option linter.unusedVariables false
set_option linter.unusedSimpArgs false
namespace Go.Ab
def law11_TableBack.mark : Mark := ⟨fun t => Nat.beq t 20 || Nat.beq t 22 || Nat.beq t 29 || Nat.beq t 34 || Nat.beq t 39 || Nat.beq t 63 || Nat.beq t 84 || Nat.beq t 90, fun t => false, fun t => false, fun t => Nat.beq t 62 || Nat.beq t 74, fun t => false⟩
def law11_TableBack.ann : Ann := ⟨fun n => bif Nat.beq n 11 then [0, 1, 5, 6, 11] else [], fun n => none, fun n => none⟩
/-- 'marlstone/marlstonelaw11.TableBack' -/
def law11_TableBack.sh (a0 a1 : AV) (σ : Store) (Q : AEnd → Store → Prop) : Prop :=
  Do (aPureC Go.Proofs.Try.prog 11 []) fun t20 =>
  Do (aPureC Go.Proofs.Try.prog 25 [a0]) fun t22 =>
  Do (aBuiltin Go.Proofs.Try.prog .len #[22] [t22]) fun t24 =>
  Do (aBin Go.Proofs.Try.prog .eql 3 t24 (.val (.int .i64 0))) fun t25 =>
  aCond t25
    (Q (.ret t20) σ)
    (Do (aPureC Go.Proofs.Try.prog 13 [t22]) fun t29 =>
  Do (aExt t29 0) fun t30 =>
  Do (aExt t29 1) fun t31 =>
  Do (aPureC Go.Proofs.Try.prog 21 [t30]) fun t34 =>
  Do (aExt t34 0) fun t35 =>
  Do (aExt t34 1) fun t36 =>
  Do (aPureC Go.Proofs.Try.prog 19 [t35, t22]) fun t39 =>
  Do (aBin Go.Proofs.Try.prog .neq 26 t31 (.val (.int .i64 0))) fun t41 =>
  Do (aGuard t41 false (aIs t36)) fun t43 =>
  Do (aGuard t41 false (aBin Go.Proofs.Try.prog .neq 26 t43 (.val (.int .i64 0)))) fun t44 =>
  Do (aPick t41 (.val (.bool true)) t44) fun t45 =>
  Do (aGuard t45 false (aIs t39)) fun t47 =>
  Do (aGuard t45 false (aUn Go.Proofs.Try.prog .not t47)) fun t48 =>
  Do (aPick t45 (.val (.bool true)) t48) fun t49 =>
  aCond t49
    (Q (.ret (.val (.bool false))) σ)
    (aLoop (fun go vs σ =>
    At vs 0 fun s0 => At vs 1 fun s1 => At vs 2 fun s5 => At vs 3 fun s6 => At vs 4 fun s11 => Do (aBuiltin Go.Proofs.Try.prog .len #[22] [s0]) fun t52 =>
    Do (aBin Go.Proofs.Try.prog .lss 3 s11 t52) fun t53 =>
    aCond t53
      (Do (aIndexAddr .slice 4 s0 s11) fun t60 =>
    Do (aFieldAddr 0 1 t60) fun t61 =>
    Do (loadF false 1 t61) fun t62 =>
    Do (aPureC Go.Proofs.Try.prog 23 [s6, t62]) fun t63 =>
    Do (aExt t63 0) fun t64 =>
    Do (aExt t63 1) fun t65 =>
    Do (aExt t63 2) fun t66 =>
    aNewVar 52 [.val (.string ⟨#[]⟩), .val (.string ⟨#[]⟩), .val (.bool false), .val (.int .i64 0)] σ fun t12 σ_1 =>
    storeA 4 t12 t64 σ_1 fun u σ_2 =>
    Do (aUn Go.Proofs.Try.prog .not t65) fun t68 =>
    Do (aGuard t68 false (loadA true 4 t12 σ_2)) fun t70 =>
    Do (aGuard t68 false (aIs s0)) fun t71 =>
    Do (aGuard t68 false (aIs s11)) fun t72 =>
    Do (aGuard t68 false (aIndexAddr .slice 4 t71 t72)) fun t73 =>
    Do (aGuard t68 false (loadF true 4 t73)) fun t74 =>
    Do (aGuard t68 false (aBin Go.Proofs.Try.prog .neq 52 t70 t74)) fun t75 =>
    Do (aPick t68 (.val (.bool true)) t75) fun t76 =>
    Do (aGuard t76 false (aIs t66)) fun t78 =>
    Do (aGuard t76 false (aBin Go.Proofs.Try.prog .neq 26 t78 (.val (.int .i64 0)))) fun t79 =>
    Do (aPick t76 (.val (.bool true)) t79) fun t80 =>
    aCond t80
      (Q (.ret (.val (.bool false))) σ_2)
      (Do (aBin Go.Proofs.Try.prog .add 3 s11 (.val (.int .i64 1))) fun t55 =>
    go [s0, s1, s5, s6, t55] σ_2))
      (Do (aPureC Go.Proofs.Try.prog 30 [s0, s1]) fun t84 =>
  Do (aExt t84 0) fun t85 =>
  Do (aExt t84 1) fun t86 =>
  Do (aPureC Go.Proofs.Try.prog 23 [s6, s1]) fun t90 =>
  Do (aExt t90 0) fun t91 =>
  Do (aExt t90 1) fun t92 =>
  Do (aExt t90 2) fun t93 =>
  aNewVar 52 [.val (.string ⟨#[]⟩), .val (.string ⟨#[]⟩), .val (.bool false), .val (.int .i64 0)] σ fun t17 σ_3 =>
  storeA 4 t17 t91 σ_3 fun u_1 σ_4 =>
  Do (aGuard s5 true (aIs t92)) fun t96 =>
  Do (aGuard s5 true (aIs t86)) fun t97 =>
  Do (aGuard s5 true (aBin Go.Proofs.Try.prog .eql 4 t96 t97)) fun t98 =>
  Do (aPick s5 t98 (.val (.bool false))) fun t99 =>
  Do (aGuard t99 true (aIs t93)) fun t101 =>
  Do (aGuard t99 true (aBin Go.Proofs.Try.prog .eql 26 t101 (.val (.int .i64 0)))) fun t102 =>
  Do (aPick t99 t102 (.val (.bool false))) fun t103 =>
  Q (.ret t103) σ_4))
    [t22, a1, t20, t30, (.val (.int .i64 0))] σ))
theorem law11_TableBack.eq (a0 a1 : AV) (σ : Store) (Q : AEnd → Store → Prop) : vc (semOf Go.Proofs.Try.prog law11_TableBack.mark) Go.Proofs.Try.f10.ntmps law11_TableBack.ann (bodyOf Go.Proofs.Try.f10) (endK [.tmp 4] Q) (argFr [a0, a1]) σ = law11_TableBack.sh a0 a1 σ Q := by kernel_rfl
theorem law11_TableBack.go {a0 a1 : AV} {σ : Store} {Q : AEnd → Store → Prop} (h : law11_TableBack.sh a0 a1 σ Q) : ACalls Go.Proofs.Try.prog 10 [a0, a1] σ Q :=
  acalls_of_eq [.tmp 4] Go.Proofs.Try.func10 (by kernel_rfl) (by kernel_rfl) (by kernel_rfl) (by kernel_rfl) (law11_TableBack.eq a0 a1 σ Q) h
theorem TableBack_ok (l : List En) (m : SM) (k : List UInt8) (hl : l.length ≤ 100000000000000) (hk : k.length ≤ 140737488355328) : aPure Go.Proofs.Try.prog 10 [.lst 4 (l.map En.av) m, S k] (B true) := by
  refine ACalls.fin (law11_TableBack.go ?_)
  unfold law11_TableBack.sh
  obtain ⟨L, hL⟩ : ∃ L, L = fitL ((l.take 70).map (cutE 130 1030)) := ⟨_, rfl⟩
  have h64 : L.length ≤ 64 := by rw [hL]; unfold fitL; simp; omega
  have iF : PC Go.Proofs.Try.prog 25 [.lst 4 (l.map En.av) m] True (.lst 4 (L.map En.av) .ro) := ⟨fun _ => by rw [hL]; exact PC.of (fit11_ok l m hl)⟩
  by_cases h0 : L.length = 0
  · repeat' (first | with_reducible apply Stp.go | with_reducible refine imp fun _ => ?_ | (with_reducible refine hyp ?_ ?_; first | assumption | exact leftT_mem (by assumption)) | (with_reducible refine need ?_ ?_; first | trivial | omega | exact ⟨by assumption, by omega⟩ | (simp only [List.length_append, List.length_cons, List.length_nil, List.length_map, List.length_take, List.length_drop, List.length_replicate, List.length_set]; omega)) | (with_reducible refine fact ?_ ?_; first | trivial | exact ⟨rfl, rfl⟩ | kernel_rfl) | with_reducible refine choT (by assumption) ?_ | with_reducible refine choF (by assumption) ?_ | with_reducible refine choF' (by assumption) ?_ | (with_reducible refine altT ?_ ?_; first | omega | (simp only [List.length_append, List.length_cons, List.length_nil, List.length_map, List.length_take, List.length_drop, List.length_replicate, List.length_set]; omega)) | with_reducible refine altF ?_ | with_reducible refine all fun _ => ?_ | with_reducible refine both ?_ ?_ | (with_reducible refine choT ?_ ?_; omega) | (with_reducible refine choF ?_ ?_; omega) | with_reducible refine cho (fun _ => ?_) (fun _ => ?_))
    exact ⟨_, _, _, rfl, Sub.app_nil _, rfl, rfl⟩
  · have hf : fit L = true := by rw [hL] at h0 ⊢; exact fitL_fit (by omega)
    have hri := (sorted_iff L).1 (fit_right hf).2.2.1
    have hTb := tbB_len L
    have hb := tbl_back hf
    have hV : tblV (tbB L) = L := by rw [tblV, hb]; rfl
    have hX : tblX (tbB L) = 0 := by rw [tblX, hb]; rfl
    have iB : PC Go.Proofs.Try.prog 13 [.lst 4 (L.map En.av) .ro] True (.tuple [.lst 1 ((tbB L).map byt) .ro, .val (.int .i64 0)]) := ⟨fun _ => by
      have := PC.of (tBytes_ok L .ro (by omega))
      rw [tbE, if_pos hf] at this
      exact this⟩
    have iP : PC Go.Proofs.Try.prog 21 [.lst 1 ((tbB L).map byt) .ro] True (.tuple [.lst 4 (L.map En.av) .ro, .val (.int .i64 0)]) := ⟨fun _ => by
      have := PC.of (tParse_ok (tbB L) .ro (by omega))
      rw [hV, hX] at this
      exact this⟩
    have iG : ∀ q : List UInt8, PC Go.Proofs.Try.prog 23 [.lst 1 ((tbB L).map byt) .ro, S q] True (.tuple [(getF L q).av, B (hasK L q), .val (.int .i64 0)]) := fun q => ⟨fun _ => by
      have := PC.of (tGet_ok (tbB L) .ro q (by omega))
      rw [hV, hX] at this
      exact this⟩
    repeat' (first | with_reducible apply Stp.go | with_reducible refine imp fun _ => ?_ | (with_reducible refine hyp ?_ ?_; first | assumption | exact leftT_mem (by assumption)) | (with_reducible refine need ?_ ?_; first | trivial | omega | exact ⟨by assumption, by omega⟩ | (simp only [List.length_append, List.length_cons, List.length_nil, List.length_map, List.length_take, List.length_drop, List.length_replicate, List.length_set]; omega)) | (with_reducible refine fact ?_ ?_; first | trivial | exact ⟨rfl, rfl⟩ | kernel_rfl) | with_reducible refine choT (by assumption) ?_ | with_reducible refine choF (by assumption) ?_ | with_reducible refine choF' (by assumption) ?_ | (with_reducible refine altT ?_ ?_; first | omega | (simp only [List.length_append, List.length_cons, List.length_nil, List.length_map, List.length_take, List.length_drop, List.length_replicate, List.length_set]; omega)) | with_reducible refine altF ?_ | with_reducible refine all fun _ => ?_ | with_reducible refine both ?_ ?_ | (with_reducible refine choT ?_ ?_; omega) | (with_reducible refine choF ?_ ?_; omega) | with_reducible refine cho (fun _ => ?_) (fun _ => ?_))
    all_goals first
      | contradiction
      | skip
    refine loopI (β := Nat) (fun i => i ≤ L.length) (fun i => [.lst 4 (L.map En.av) .ro, S k, B true, .lst 1 ((tbB L).map byt) .ro, I .i64 (i : Nat)]) (fun _ => []) (fun i => L.length - i) 0 (Nat.zero_le _) (Sub.refl _ _) ?_
    intro i hi
    by_cases hlt : i < L.length
    · have hps := place_self hri hlt
      have hh : hasK L (L.getD i default).key = true := by
        rw [has_place hri, hps, decide_eq_true hlt, decide_eq_true rfl]; rfl
      have hF : getF L (L.getD i default).key = L.getD i default := by rw [getF, if_pos hh, hps]
      have iG2 : PC Go.Proofs.Try.prog 23 [.lst 1 ((tbB L).map byt) .ro, S (L.getD i default).key] True (.tuple [(L.getD i default).av, B true, .val (.int .i64 0)]) := ⟨fun _ => by
        have := (iG (L.getD i default).key).ct trivial
        rw [hh, hF] at this
        exact this⟩
      repeat' (first | with_reducible apply Stp.go | with_reducible refine imp fun _ => ?_ | (with_reducible refine hyp ?_ ?_; first | assumption | exact leftT_mem (by assumption)) | (with_reducible refine need ?_ ?_; first | trivial | omega | exact ⟨by assumption, by omega⟩ | (simp only [List.length_append, List.length_cons, List.length_nil, List.length_map, List.length_take, List.length_drop, List.length_replicate, List.length_set]; omega)) | (with_reducible refine fact ?_ ?_; first | trivial | exact ⟨rfl, rfl⟩ | kernel_rfl) | with_reducible refine choT (by assumption) ?_ | with_reducible refine choF (by assumption) ?_ | with_reducible refine choF' (by assumption) ?_ | (with_reducible refine altT ?_ ?_; first | omega | (simp only [List.length_append, List.length_cons, List.length_nil, List.length_map, List.length_take, List.length_drop, List.length_replicate, List.length_set]; omega)) | with_reducible refine altF ?_ | with_reducible refine all fun _ => ?_ | with_reducible refine both ?_ ?_ | (with_reducible refine choT ?_ ?_; omega) | (with_reducible refine choF ?_ ?_; omega) | with_reducible refine cho (fun _ => ?_) (fun _ => ?_))
      all_goals first
        | exact again (i + 1) (by omega) (by omega) (Sub.app_nil _)
        | contradiction
        | (exfalso; rename_i h; exact h rfl)
        | trace_state
    · have e : i = L.length := by omega
      subst e
      repeat' (first | with_reducible apply Stp.go | with_reducible refine imp fun _ => ?_ | (with_reducible refine hyp ?_ ?_; first | assumption | exact leftT_mem (by assumption)) | (with_reducible refine need ?_ ?_; first | trivial | omega | exact ⟨by assumption, by omega⟩ | (simp only [List.length_append, List.length_cons, List.length_nil, List.length_map, List.length_take, List.length_drop, List.length_replicate, List.length_set]; omega)) | (with_reducible refine fact ?_ ?_; first | trivial | exact ⟨rfl, rfl⟩ | kernel_rfl) | with_reducible refine choT (by assumption) ?_ | with_reducible refine choF (by assumption) ?_ | with_reducible refine choF' (by assumption) ?_ | (with_reducible refine altT ?_ ?_; first | omega | (simp only [List.length_append, List.length_cons, List.length_nil, List.length_map, List.length_take, List.length_drop, List.length_replicate, List.length_set]; omega)) | with_reducible refine altF ?_ | with_reducible refine all fun _ => ?_ | with_reducible refine both ?_ ?_ | (with_reducible refine choT ?_ ?_; omega) | (with_reducible refine choF ?_ ?_; omega) | with_reducible refine cho (fun _ => ?_) (fun _ => ?_))
      all_goals first
        | exact ⟨_, _, _, rfl, Sub.app_nil _, rfl, rfl⟩
        | contradiction
        | (exfalso; rename_i h; exact h rfl)
        | trace_state
end Go.Ab
