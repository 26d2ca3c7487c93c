/- A place halved out; Seek. -/
import Derived.Test.YtopmpooglnfalaaF23
import Derived.Test.YtopmpooglnfalaaSp12
import Derived.Test.YtopmpooglnfalaaF7
import Derived.Laws.Externs
set_option linter.unusedVariables false
set_option linter.unusedSimpArgs false
namespace Go.Ab
theorem cmpstring_ok (a b : List UInt8) : aPureC Go.Proofs.Try.prog 87 [S a, S b] (I .i64 (cmpK a b)) := by
  refine .inr ⟨[.string ⟨a.toArray⟩, .string ⟨b.toArray⟩], .int .i64 (cmpK a b), rfl, rfl, fun w => ?_⟩
  rw [run_callFunc_extern Go.Proofs.Try.func87 (by kernel_rfl) (by kernel_rfl) (by kernel_rfl) (e := Extern.BytealgCompare.compare) (by kernel_rfl)]
  rw [show ([Value.string ⟨a.toArray⟩, Value.string ⟨b.toArray⟩] : List Value).toArray = #[.string ⟨a.toArray⟩, .string ⟨b.toArray⟩] from rfl, Lib.run_compareString, compare_cmpK]
  rfl
instance (a b : List UInt8) : XC Go.Proofs.Try.prog 87 [S a, S b] (I .i64 (cmpK a b)) := ⟨cmpstring_ok a b⟩
def internal_bytealg_CompareString.mark : Mark := ⟨fun t => Nat.beq t 7, fun t => false, fun t => false, fun t => false, fun t => false⟩
def internal_bytealg_CompareString.ann : Ann := ⟨fun n => [], fun n => none, fun n => none⟩
/-- 'internal/bytealg.CompareString' -/
def internal_bytealg_CompareString.sh (a0 a1 : AV) (σ : Store) (Q : AEnd → Store → Prop) : Prop :=
  Do (aPureC Go.Proofs.Try.prog 87 [a0, a1]) fun t7 =>
  Q (.ret t7) σ
theorem internal_bytealg_CompareString.eq (a0 a1 : AV) (σ : Store) (Q : AEnd → Store → Prop) : vc (semOf Go.Proofs.Try.prog internal_bytealg_CompareString.mark) Go.Proofs.Try.f79.ntmps internal_bytealg_CompareString.ann (bodyOf Go.Proofs.Try.f79) (endK [.tmp 4] Q) (argFr [a0, a1]) σ = internal_bytealg_CompareString.sh a0 a1 σ Q := by kernel_rfl
theorem internal_bytealg_CompareString.go {a0 a1 : AV} {σ : Store} {Q : AEnd → Store → Prop} (h : internal_bytealg_CompareString.sh a0 a1 σ Q) : ACalls Go.Proofs.Try.prog 79 [a0, a1] σ Q :=
  acalls_of_eq [.tmp 4] Go.Proofs.Try.func79 (by kernel_rfl) (by kernel_rfl) (by kernel_rfl) (by kernel_rfl) (internal_bytealg_CompareString.eq a0 a1 σ Q) h
def strings_Compare.mark : Mark := ⟨fun t => Nat.beq t 7, fun t => false, fun t => false, fun t => false, fun t => false⟩
def strings_Compare.ann : Ann := ⟨fun n => [], fun n => none, fun n => none⟩
/-- 'strings.Compare' -/
def strings_Compare.sh (a0 a1 : AV) (σ : Store) (Q : AEnd → Store → Prop) : Prop :=
  Do (aPureC Go.Proofs.Try.prog 79 [a0, a1]) fun t7 =>
  Q (.ret t7) σ
theorem strings_Compare.eq (a0 a1 : AV) (σ : Store) (Q : AEnd → Store → Prop) : vc (semOf Go.Proofs.Try.prog strings_Compare.mark) Go.Proofs.Try.f63.ntmps strings_Compare.ann (bodyOf Go.Proofs.Try.f63) (endK [.tmp 4] Q) (argFr [a0, a1]) σ = strings_Compare.sh a0 a1 σ Q := by kernel_rfl
theorem strings_Compare.go {a0 a1 : AV} {σ : Store} {Q : AEnd → Store → Prop} (h : strings_Compare.sh a0 a1 σ Q) : ACalls Go.Proofs.Try.prog 63 [a0, a1] σ Q :=
  acalls_of_eq [.tmp 4] Go.Proofs.Try.func63 (by kernel_rfl) (by kernel_rfl) (by kernel_rfl) (by kernel_rfl) (strings_Compare.eq a0 a1 σ Q) h
def block_Seek_1.mark : Mark := ⟨fun t => Nat.beq t 8, fun t => false, fun t => Nat.beq t 2, fun t => Nat.beq t 6, fun t => false⟩
def block_Seek_1.ann : Ann := ⟨fun n => [], fun n => none, fun n => none⟩
/-- 'marlstone/block.Seek$1' -/
def block_Seek_1.sh (a0 a1 : AV) (σ : Store) (Q : AEnd → Store → Prop) : Prop :=
  Do (aFreeze ((a0 : AV)).cells) fun t2 =>
  Do (aFieldAddr 0 1 t2) fun t5 =>
  Do (loadF false 1 t5) fun t6 =>
  Do (aPureC Go.Proofs.Try.prog 63 [t6, a1]) fun t8 =>
  Q (.ret t8) σ
theorem block_Seek_1.eq (a0 a1 : AV) (σ : Store) (Q : AEnd → Store → Prop) : vc (semOf Go.Proofs.Try.prog block_Seek_1.mark) Go.Proofs.Try.f62.ntmps block_Seek_1.ann (bodyOf Go.Proofs.Try.f62) (endK [.tmp 4] Q) (argFr [a0, a1]) σ = block_Seek_1.sh a0 a1 σ Q := by kernel_rfl
theorem block_Seek_1.go {a0 a1 : AV} {σ : Store} {Q : AEnd → Store → Prop} (h : block_Seek_1.sh a0 a1 σ Q) : ACalls Go.Proofs.Try.prog 62 [a0, a1] σ Q :=
  acalls_of_eq [.tmp 4] Go.Proofs.Try.func62 (by kernel_rfl) (by kernel_rfl) (by kernel_rfl) (by kernel_rfl) (block_Seek_1.eq a0 a1 σ Q) h
def slices_BinarySearchFunc.mark : Mark := ⟨fun t => Nat.beq t 30 || Nat.beq t 46, fun t => false, fun t => false, fun t => Nat.beq t 28 || Nat.beq t 44, fun t => false⟩
def slices_BinarySearchFunc.ann : Ann := ⟨fun n => bif Nat.beq n 3 then [0, 1, 2, 8, 9, 10] else [], fun n => none, fun n => none⟩
/-- 'slices.BinarySearchFunc[[]marlstone/api.Entry,marlstone/api.Entry,string]' -/
def slices_BinarySearchFunc.sh (a0 a1 a2 : AV) (σ : Store) (Q : AEnd → Store → Prop) : Prop :=
  Do (aBuiltin Go.Proofs.Try.prog .len #[22] [a0]) fun t13 =>
  aLoop (fun go vs σ =>
    At vs 0 fun s0 => At vs 1 fun s1 => At vs 2 fun s2 => At vs 3 fun s8 => At vs 4 fun s9 => At vs 5 fun s10 => Do (aBin Go.Proofs.Try.prog .lss 3 s9 s10) fun t17 =>
    aCond t17
      (Do (aBin Go.Proofs.Try.prog .add 3 s9 s10) fun t20 =>
    Do (fun x => aConvN 3 91 t20 x Go.Proofs.Try.prog) fun t21 =>
    Do (aBin Go.Proofs.Try.prog .shr 91 t21 (W64 1)) fun t22 =>
    Do (fun x => aConvN 91 3 t22 x Go.Proofs.Try.prog) fun t23 =>
    Do (aIndexAddr .slice 4 s0 t23) fun t27 =>
    Do (loadF true 4 t27) fun t28 =>
    Do (aPureV Go.Proofs.Try.prog s2 [t28, s1]) fun t30 =>
    Do (aBin Go.Proofs.Try.prog .lss 3 t30 (.val (.int .i64 0))) fun t31 =>
    aCond t31
      (Do (aBin Go.Proofs.Try.prog .add 3 t23 (.val (.int .i64 1))) fun t33 =>
      go [s0, s1, s2, s8, t33, s10] σ)
      (go [s0, s1, s2, s8, s9, t23] σ))
      (Do (aBin Go.Proofs.Try.prog .lss 3 s9 s8) fun t38 =>
  Do (aGuard t38 true (aIs s2)) fun t40 =>
  Do (aGuard t38 true (aIs s0)) fun t41 =>
  Do (aGuard t38 true (aIs s9)) fun t42 =>
  Do (aGuard t38 true (aIndexAddr .slice 4 t41 t42)) fun t43 =>
  Do (aGuard t38 true (loadF true 4 t43)) fun t44 =>
  Do (aGuard t38 true (aIs s1)) fun t45 =>
  Do (aGuard t38 true (aPureV Go.Proofs.Try.prog t40 [t44, t45])) fun t46 =>
  Do (aGuard t38 true (aBin Go.Proofs.Try.prog .eql 3 t46 (.val (.int .i64 0)))) fun t47 =>
  Do (aPick t38 t47 (.val (.bool false))) fun t48 =>
  Q (.ret (.tuple [s9, t48])) σ))
    [a0, a1, a2, t13, (.val (.int .i64 0)), t13] σ
theorem slices_BinarySearchFunc.eq (a0 a1 a2 : AV) (σ : Store) (Q : AEnd → Store → Prop) : vc (semOf Go.Proofs.Try.prog slices_BinarySearchFunc.mark) Go.Proofs.Try.f61.ntmps slices_BinarySearchFunc.ann (bodyOf Go.Proofs.Try.f61) (endK [.tmp 6, .tmp 7] Q) (argFr [a0, a1, a2]) σ = slices_BinarySearchFunc.sh a0 a1 a2 σ Q := by kernel_rfl
theorem slices_BinarySearchFunc.go {a0 a1 a2 : AV} {σ : Store} {Q : AEnd → Store → Prop} (h : slices_BinarySearchFunc.sh a0 a1 a2 σ Q) : ACalls Go.Proofs.Try.prog 61 [a0, a1, a2] σ Q :=
  acalls_of_eq [.tmp 6, .tmp 7] Go.Proofs.Try.func61 (by kernel_rfl) (by kernel_rfl) (by kernel_rfl) (by kernel_rfl) (slices_BinarySearchFunc.eq a0 a1 a2 σ Q) h
theorem CompareString_ok (a b : List UInt8) : aPure Go.Proofs.Try.prog 79 [S a, S b] (I .i64 (cmpK a b)) := by
  refine internal_bytealg_CompareString.go ?_
  unfold internal_bytealg_CompareString.sh
  repeat' (first | with_reducible apply Stp.go | with_reducible refine imp fun _ => ?_ | (with_reducible refine hyp ?_ ?_; first | assumption | exact leftT_mem (by assumption)) | (with_reducible refine need ?_ ?_; first | trivial | omega | exact ⟨by assumption, by omega⟩ | (simp only [List.length_append, List.length_cons, List.length_nil, List.length_map, List.length_take, List.length_drop, List.length_replicate]; omega)) | (with_reducible refine fact ?_ ?_; first | trivial | exact ⟨rfl, rfl⟩ | kernel_rfl) | with_reducible refine choT (by assumption) ?_ | with_reducible refine choF (by assumption) ?_ | with_reducible refine choF' (by assumption) ?_ | (with_reducible refine altT ?_ ?_; first | omega | (simp only [List.length_append, List.length_cons, List.length_nil, List.length_map, List.length_take, List.length_drop, List.length_replicate]; omega)) | with_reducible refine altF ?_ | with_reducible refine all fun _ => ?_ | with_reducible refine both ?_ ?_ | (with_reducible refine choT ?_ ?_; omega) | (with_reducible refine choF ?_ ?_; omega) | with_reducible refine cho (fun _ => ?_) (fun _ => ?_))
  exact ⟨rfl, rfl⟩
instance (a b : List UInt8) : PC Go.Proofs.Try.prog 79 [S a, S b] True (I .i64 (cmpK a b)) := ⟨fun _ => PC.of (CompareString_ok a b)⟩
theorem strings_Compare_ok (a b : List UInt8) : aPure Go.Proofs.Try.prog 63 [S a, S b] (I .i64 (cmpK a b)) := by
  refine strings_Compare.go ?_
  unfold strings_Compare.sh
  repeat' (first | with_reducible apply Stp.go | with_reducible refine imp fun _ => ?_ | (with_reducible refine hyp ?_ ?_; first | assumption | exact leftT_mem (by assumption)) | (with_reducible refine need ?_ ?_; first | trivial | omega | exact ⟨by assumption, by omega⟩ | (simp only [List.length_append, List.length_cons, List.length_nil, List.length_map, List.length_take, List.length_drop, List.length_replicate]; omega)) | (with_reducible refine fact ?_ ?_; first | trivial | exact ⟨rfl, rfl⟩ | kernel_rfl) | with_reducible refine choT (by assumption) ?_ | with_reducible refine choF (by assumption) ?_ | with_reducible refine choF' (by assumption) ?_ | (with_reducible refine altT ?_ ?_; first | omega | (simp only [List.length_append, List.length_cons, List.length_nil, List.length_map, List.length_take, List.length_drop, List.length_replicate]; omega)) | with_reducible refine altF ?_ | with_reducible refine all fun _ => ?_ | with_reducible refine both ?_ ?_ | (with_reducible refine choT ?_ ?_; omega) | (with_reducible refine choF ?_ ?_; omega) | with_reducible refine cho (fun _ => ?_) (fun _ => ?_))
  exact ⟨rfl, rfl⟩
instance (a b : List UInt8) : PC Go.Proofs.Try.prog 63 [S a, S b] True (I .i64 (cmpK a b)) := ⟨fun _ => PC.of (strings_Compare_ok a b)⟩
theorem Seek1_ok (e : En) (k : List UInt8) : aPure Go.Proofs.Try.prog 62 [e.av, S k] (I .i64 (cmpK e.key k)) := by
  refine block_Seek_1.go ?_
  unfold block_Seek_1.sh
  repeat' (first | with_reducible apply Stp.go | with_reducible refine imp fun _ => ?_ | (with_reducible refine hyp ?_ ?_; first | assumption | exact leftT_mem (by assumption)) | (with_reducible refine need ?_ ?_; first | trivial | omega | exact ⟨by assumption, by omega⟩ | (simp only [List.length_append, List.length_cons, List.length_nil, List.length_map, List.length_take, List.length_drop, List.length_replicate]; omega)) | (with_reducible refine fact ?_ ?_; first | trivial | exact ⟨rfl, rfl⟩ | kernel_rfl) | with_reducible refine choT (by assumption) ?_ | with_reducible refine choF (by assumption) ?_ | with_reducible refine choF' (by assumption) ?_ | (with_reducible refine altT ?_ ?_; first | omega | (simp only [List.length_append, List.length_cons, List.length_nil, List.length_map, List.length_take, List.length_drop, List.length_replicate]; omega)) | with_reducible refine altF ?_ | with_reducible refine all fun _ => ?_ | with_reducible refine both ?_ ?_ | (with_reducible refine choT ?_ ?_; omega) | (with_reducible refine choF ?_ ?_; omega) | with_reducible refine cho (fun _ => ?_) (fun _ => ?_))
  exact ⟨rfl, rfl⟩
instance (e : En) (k : List UInt8) : PC Go.Proofs.Try.prog 62 [e.av, S k] True (I .i64 (cmpK e.key k)) := ⟨fun _ => PC.of (Seek1_ok e k)⟩
theorem half_ok {n : Nat} (h : n < 18446744073709551616) : (UInt64.ofNat n >>> UInt64.ofNat 1).toNat = n / 2 := by
  rw [UInt64.toNat_shiftRight, u64_len h]
  simp [Nat.shiftRight_eq_div_pow]
theorem Search_ok (l : List En) (m : SM) (k : List UInt8) (g : FuncId) (hg : ∀ e : En, aPure Go.Proofs.Try.prog g [e.av, S k] (I .i64 (cmpK e.key k))) (hr : Rises l) (hl : l.length ≤ 1000000000000) :
    aPure Go.Proofs.Try.prog 61 [.lst 4 (l.map En.av) m, S k, .val (.func (.func g) #[] #[])] (.tuple [I .i64 (placeN l k : Nat), B (hasK l k)]) := by
  have inst : ∀ e : En, PC Go.Proofs.Try.prog g [e.av, S k] True (I .i64 (cmpK e.key k)) := fun e => ⟨fun _ => PC.of (hg e)⟩
  refine slices_BinarySearchFunc.go ?_
  unfold slices_BinarySearchFunc.sh
  have hp := placeN_le l k
  repeat' (first | with_reducible apply Stp.go | with_reducible refine imp fun _ => ?_ | (with_reducible refine hyp ?_ ?_; first | assumption | exact leftT_mem (by assumption)) | (with_reducible refine need ?_ ?_; first | trivial | omega | exact ⟨by assumption, by omega⟩ | (simp only [List.length_append, List.length_cons, List.length_nil, List.length_map, List.length_take, List.length_drop, List.length_replicate]; omega)) | (with_reducible refine fact ?_ ?_; first | trivial | exact ⟨rfl, rfl⟩ | kernel_rfl) | with_reducible refine choT (by assumption) ?_ | with_reducible refine choF (by assumption) ?_ | with_reducible refine choF' (by assumption) ?_ | (with_reducible refine altT ?_ ?_; first | omega | (simp only [List.length_append, List.length_cons, List.length_nil, List.length_map, List.length_take, List.length_drop, List.length_replicate]; omega)) | with_reducible refine altF ?_ | with_reducible refine all fun _ => ?_ | with_reducible refine both ?_ ?_ | (with_reducible refine choT ?_ ?_; omega) | (with_reducible refine choF ?_ ?_; omega) | with_reducible refine cho (fun _ => ?_) (fun _ => ?_))
  refine loopI (β := Nat × Nat) (fun x => x.1 ≤ placeN l k ∧ placeN l k ≤ x.2 ∧ x.2 ≤ l.length) (fun x => [.lst 4 (l.map En.av) m, S k, .val (.func (.func g) #[] #[]), I .i64 (l.length : Nat), I .i64 (x.1 : Nat), I .i64 (x.2 : Nat)]) (fun _ => []) (fun x => x.2 - x.1) (0, l.length) ⟨Nat.zero_le _, hp, Nat.le_refl _⟩ (Sub.refl _ _) ?_
  rintro ⟨i, j⟩ ⟨h1, h2, h3⟩
  dsimp only at h1 h2 h3 ⊢
  have hh := half_ok (n := i + j) (by omega)
  repeat' (first | with_reducible apply Stp.go | with_reducible refine imp fun _ => ?_ | (with_reducible refine hyp ?_ ?_; first | assumption | exact leftT_mem (by assumption)) | (with_reducible refine need ?_ ?_; first | trivial | omega | exact ⟨by assumption, by omega⟩ | (simp only [List.length_append, List.length_cons, List.length_nil, List.length_map, List.length_take, List.length_drop, List.length_replicate]; omega)) | (with_reducible refine fact ?_ ?_; first | trivial | exact ⟨rfl, rfl⟩ | kernel_rfl) | with_reducible refine choT (by assumption) ?_ | with_reducible refine choF (by assumption) ?_ | with_reducible refine choF' (by assumption) ?_ | (with_reducible refine altT ?_ ?_; first | omega | (simp only [List.length_append, List.length_cons, List.length_nil, List.length_map, List.length_take, List.length_drop, List.length_replicate]; omega)) | with_reducible refine altF ?_ | with_reducible refine all fun _ => ?_ | with_reducible refine both ?_ ?_ | (with_reducible refine choT ?_ ?_; omega) | (with_reducible refine choF ?_ ?_; omega) | with_reducible refine cho (fun _ => ?_) (fun _ => ?_))
  · rename_i h4 h5
    rw [hh] at h5 ⊢
    rw [cmpK_lt, place_at hr k (by omega)] at h5
    exact again ((i + j) / 2 + 1, j) (by dsimp only; omega) ⟨by dsimp only; omega, h2, h3⟩ (Sub.refl _ _)
  · rename_i h4 h5
    rw [hh] at h5 ⊢
    rw [cmpK_lt, place_at hr k (by omega)] at h5
    exact again (i, (i + j) / 2) (by dsimp only; omega) ⟨h1, by dsimp only; omega, by dsimp only; omega⟩ (Sub.refl _ _)
  · rename_i h4 h5
    have e : i = placeN l k := by omega
    subst e
    have e2 : decide (cmpK (l.getD (placeN l k) default).key k = 0) = hasK l k := by
      rw [has_place hr k, decide_eq_true h5, Bool.true_and]
      simp only [cmpK_zero]
    rw [e2]
    exact ⟨rfl, rfl⟩
  · rename_i h4 h5
    have e : i = placeN l k := by omega
    have e2 : hasK l k = false := by rw [has_place hr k, decide_eq_false (by omega), Bool.false_and]
    rw [e, e2]
    exact ⟨rfl, rfl⟩
instance {a : AV} {l : List En} {m : SM} {k : List UInt8} [h : IsL a En.av 4 l m] : PC Go.Proofs.Try.prog 61 [a, S k, .val (.func (.func 62) #[] #[])] (Rises l ∧ l.length ≤ 1000000000000) (.tuple [I .i64 (placeN l k : Nat), B (hasK l k)]) := ⟨fun hl => ⟨[.lst 4 (l.map En.av) m, S k, .val (.func (.func 62) #[] #[])], ⟨h.sub, SubVs.refl _⟩, Search_ok l m k _ (fun e => Seek1_ok e k) hl.1 hl.2⟩⟩
def block_Seek.mark : Mark := ⟨fun t => Nat.beq t 13 || Nat.beq t 23, fun t => false, fun t => false, fun t => Nat.beq t 34, fun t => false⟩
def block_Seek.ann : Ann := ⟨fun n => [], fun n => none, fun n => none⟩
/-- 'marlstone/block.Seek' -/
def block_Seek.sh (a0 a1 : AV) (σ : Store) (Q : AEnd → Store → Prop) : Prop :=
  aNewVar 35 [.val (.string ⟨#[]⟩), .val (.string ⟨#[]⟩), .val (.bool false), .val (.int .i64 0)] σ fun t4 σ =>
  Do (aPureC Go.Proofs.Try.prog 25 [a0]) fun t13 =>
  Do (aExt t13 0) fun t14 =>
  Do (aExt t13 1) fun t15 =>
  Do (aBin Go.Proofs.Try.prog .neq 26 t15 (.val (.int .i64 0))) fun t17 =>
  aCond t17
    (Do (aLit [.val (.string ⟨#[]⟩), .val (.string ⟨#[]⟩), .val (.bool false), .val (.int .i64 0)] [(0, 1), (1, 1), (2, 1), (3, 1)] []) fun t18 =>
    storeA 4 t4 t18 σ fun u σ_1 =>
    Do (loadA true 4 t4 σ_1) fun r4 => Q (.ret (.tuple [r4, (.val (.bool false)), t15])) σ_1)
    (Do (aPureC Go.Proofs.Try.prog 61 [t14, a1, (.val (.func (.func 62) #[] #[]))]) fun t23 =>
  Do (aExt t23 0) fun t24 =>
  Do (aExt t23 1) fun t25 =>
  Do (aBuiltin Go.Proofs.Try.prog .len #[22] [t14]) fun t28 =>
  Do (aBin Go.Proofs.Try.prog .eql 3 t24 t28) fun t29 =>
  aCond t29
    (Do (aLit [.val (.string ⟨#[]⟩), .val (.string ⟨#[]⟩), .val (.bool false), .val (.int .i64 0)] [(0, 1), (1, 1), (2, 1), (3, 1)] []) fun t30 =>
    storeA 4 t4 t30 σ fun u_1 σ_2 =>
    Do (loadA true 4 t4 σ_2) fun r4_1 => Q (.ret (.tuple [r4_1, (.val (.bool false)), (.val (.int .i64 0))])) σ_2)
    (Do (aIndexAddr .slice 4 t14 t24) fun t33 =>
  Do (loadF true 4 t33) fun t34 =>
  storeA 4 t4 t34 σ fun u_2 σ_3 =>
  Do (loadA true 4 t4 σ_3) fun r4_2 => Q (.ret (.tuple [r4_2, (.val (.bool true)), (.val (.int .i64 0))])) σ_3))
theorem block_Seek.eq (a0 a1 : AV) (σ : Store) (Q : AEnd → Store → Prop) : vc (semOf Go.Proofs.Try.prog block_Seek.mark) Go.Proofs.Try.f27.ntmps block_Seek.ann (bodyOf Go.Proofs.Try.f27) (endK [.cell 4 true 4, .tmp 5, .tmp 6] Q) (argFr [a0, a1]) σ = block_Seek.sh a0 a1 σ Q := by kernel_rfl
theorem block_Seek.go {a0 a1 : AV} {σ : Store} {Q : AEnd → Store → Prop} (h : block_Seek.sh a0 a1 σ Q) : ACalls Go.Proofs.Try.prog 27 [a0, a1] σ Q :=
  acalls_of_eq [.cell 4 true 4, .tmp 5, .tmp 6] Go.Proofs.Try.func27 (by kernel_rfl) (by kernel_rfl) (by kernel_rfl) (by kernel_rfl) (block_Seek.eq a0 a1 σ Q) h
def ref04_Seek.mark : Mark := ⟨fun t => Nat.beq t 12, fun t => false, fun t => false, fun t => Nat.beq t 29 || Nat.beq t 35, fun t => false⟩
def ref04_Seek.ann : Ann := ⟨fun n => bif Nat.beq n 5 then [1, 4, 7, 9] else [], fun n => none, fun n => none⟩
/-- 'marlstone/marlstoneref04.Seek' -/
def ref04_Seek.sh (a0 a1 : AV) (σ : Store) (Q : AEnd → Store → Prop) : Prop :=
  aNewVar 35 [.val (.string ⟨#[]⟩), .val (.string ⟨#[]⟩), .val (.bool false), .val (.int .i64 0)] σ fun t4 σ =>
  Do (aPureC Go.Proofs.Try.prog 26 [a0]) fun t12 =>
  Do (aExt t12 0) fun t13 =>
  Do (aExt t12 1) fun t14 =>
  Do (aBin Go.Proofs.Try.prog .neq 26 t14 (.val (.int .i64 0))) fun t16 =>
  aCond t16
    (Do (aLit [.val (.string ⟨#[]⟩), .val (.string ⟨#[]⟩), .val (.bool false), .val (.int .i64 0)] [(0, 1), (1, 1), (2, 1), (3, 1)] []) fun t17 =>
    storeA 4 t4 t17 σ fun u σ_1 =>
    Do (loadA true 4 t4 σ_1) fun r4 => Q (.ret (.tuple [r4, (.val (.bool false)), t14])) σ_1)
    (aLoop (fun go vs σ_2 =>
    At vs 0 fun s1 => At vs 1 fun s4 => At vs 2 fun s7 => At vs 3 fun s9 => Do (aBuiltin Go.Proofs.Try.prog .len #[22] [s7]) fun t21 =>
    Do (aBin Go.Proofs.Try.prog .lss 3 s9 t21) fun t22 =>
    aCond t22
      (Do (aIndexAddr .slice 4 s7 s9) fun t27 =>
    Do (aFieldAddr 0 1 t27) fun t28 =>
    Do (loadF false 1 t28) fun t29 =>
    Do (aBin Go.Proofs.Try.prog .geq 9 t29 s1) fun t31 =>
    aCond t31
      (Do (aIndexAddr .slice 4 s7 s9) fun t34 =>
      Do (loadF true 4 t34) fun t35 =>
      storeA 4 s4 t35 σ_2 fun u_1 σ_3 =>
      Do (loadA true 4 s4 σ_3) fun r4_1 => Q (.ret (.tuple [r4_1, (.val (.bool true)), (.val (.int .i64 0))])) σ_3)
      (Do (aBin Go.Proofs.Try.prog .add 3 s9 (.val (.int .i64 1))) fun t24 =>
    go [s1, s4, s7, t24] σ_2))
      (Do (aLit [.val (.string ⟨#[]⟩), .val (.string ⟨#[]⟩), .val (.bool false), .val (.int .i64 0)] [(0, 1), (1, 1), (2, 1), (3, 1)] []) fun t36 =>
  storeA 4 s4 t36 σ_2 fun u_2 σ_4 =>
  Do (loadA true 4 s4 σ_4) fun r4_2 => Q (.ret (.tuple [r4_2, (.val (.bool false)), (.val (.int .i64 0))])) σ_4))
    [a1, t4, t13, (.val (.int .i64 0))] σ)
theorem ref04_Seek.eq (a0 a1 : AV) (σ : Store) (Q : AEnd → Store → Prop) : vc (semOf Go.Proofs.Try.prog ref04_Seek.mark) Go.Proofs.Try.f28.ntmps ref04_Seek.ann (bodyOf Go.Proofs.Try.f28) (endK [.cell 4 true 4, .tmp 5, .tmp 6] Q) (argFr [a0, a1]) σ = ref04_Seek.sh a0 a1 σ Q := by kernel_rfl
theorem ref04_Seek.go {a0 a1 : AV} {σ : Store} {Q : AEnd → Store → Prop} (h : ref04_Seek.sh a0 a1 σ Q) : ACalls Go.Proofs.Try.prog 28 [a0, a1] σ Q :=
  acalls_of_eq [.cell 4 true 4, .tmp 5, .tmp 6] Go.Proofs.Try.func28 (by kernel_rfl) (by kernel_rfl) (by kernel_rfl) (by kernel_rfl) (ref04_Seek.eq a0 a1 σ Q) h
/-- The first entry from a key on. -/
def seekH (b k : List UInt8) : Bool := decide (blkX b = 0) && decide (placeN (blkV b) k < (blkV b).length)
def seekV (b k : List UInt8) : En := if seekH b k = true then (blkV b).getD (placeN (blkV b) k) default else En.zero
theorem blkV_rises (b : List UInt8) : Rises (blkV b) := by
  unfold blkV
  cases h : blkG b with
  | none => exact List.Pairwise.nil
  | some l => exact (sorted_iff l).1 (fit_right (blkG_fit h).1).2.2.1
theorem blkV_len (b : List UInt8) : (blkV b).length ≤ 64 := by
  unfold blkV
  cases h : blkG b with
  | none => simp
  | some l => exact (fit_right (blkG_fit h).1).1
theorem blkX_two (b : List UInt8) (h : ¬ blkX b = 0) : blkX b = 2 := by
  unfold blkX at h ⊢
  split
  · rename_i h1; rw [if_pos h1] at h; exact absurd rfl h
  · rfl
theorem block_Seek_ok (b : List UInt8) (m : SM) (k : List UInt8) (hl : b.length ≤ 1000000000) : aPure Go.Proofs.Try.prog 27 [.lst 1 (b.map byt) m, S k] (.tuple [(seekV b k).av, B (seekH b k), I .i64 (blkX b)]) := by
  refine ACalls.fin (block_Seek.go ?_)
  unfold block_Seek.sh
  have hr := blkV_rises b
  have h64 := blkV_len b
  have hp := placeN_le (blkV b) k
  have z0 : (⟨[], [], false, 0⟩ : En) = En.zero := rfl
  repeat' (first | with_reducible apply Stp.go | with_reducible refine imp fun _ => ?_ | (with_reducible refine hyp ?_ ?_; first | assumption | exact leftT_mem (by assumption)) | (with_reducible refine need ?_ ?_; first | trivial | omega | exact ⟨by assumption, by omega⟩ | (simp only [List.length_append, List.length_cons, List.length_nil, List.length_map, List.length_take, List.length_drop, List.length_replicate]; omega)) | (with_reducible refine fact ?_ ?_; first | trivial | exact ⟨rfl, rfl⟩ | kernel_rfl) | with_reducible refine choT (by assumption) ?_ | with_reducible refine choF (by assumption) ?_ | with_reducible refine choF' (by assumption) ?_ | (with_reducible refine altT ?_ ?_; first | omega | (simp only [List.length_append, List.length_cons, List.length_nil, List.length_map, List.length_take, List.length_drop, List.length_replicate]; omega)) | with_reducible refine altF ?_ | with_reducible refine all fun _ => ?_ | with_reducible refine both ?_ ?_ | (with_reducible refine choT ?_ ?_; omega) | (with_reducible refine choF ?_ ?_; omega) | with_reducible refine cho (fun _ => ?_) (fun _ => ?_))
  · rename_i a h0 h1
    have e1 : seekH b k = false := by rw [seekH, decide_eq_false (show ¬ placeN (blkV b) k < (blkV b).length by omega), Bool.and_false]
    refine ⟨_, _, _, rfl, Sub.app_nil _, ?_, rfl⟩
    rw [seekV, e1, if_neg (by decide), h0]; rfl
  · rename_i a h0 h1
    have e1 : seekH b k = true := by rw [seekH, decide_eq_true h0, decide_eq_true (show placeN (blkV b) k < (blkV b).length by omega)]; rfl
    refine ⟨_, _, _, rfl, Sub.app_nil _, ?_, rfl⟩
    rw [seekV, e1, if_pos rfl, h0]
  · rename_i a h0
    have e1 : seekH b k = false := by rw [seekH, decide_eq_false h0, Bool.false_and]
    refine ⟨_, _, _, rfl, Sub.app_nil _, ?_, rfl⟩
    rw [seekV, e1, if_neg (by decide)]; rfl
instance {a : AV} {l : List UInt8} {m : SM} {k : List UInt8} [h : IsL a byt 1 l m] : PC Go.Proofs.Try.prog 27 [a, S k] (l.length ≤ 1000000000) (.tuple [(seekV l k).av, B (seekH l k), I .i64 (blkX l)]) := ⟨fun hl => ⟨[.lst 1 (l.map byt) m, S k], ⟨h.sub, SubVs.refl _⟩, block_Seek_ok l m k hl⟩⟩
theorem ref04_Seek_ok (b : List UInt8) (k : List UInt8) (hl : b.length ≤ 1000000000) : aPure Go.Proofs.Try.prog 28 [S b, S k] (.tuple [(seekV b k).av, B (seekH b k), I .i64 (blkX b)]) := by
  refine ACalls.fin (ref04_Seek.go ?_)
  unfold ref04_Seek.sh
  have hr := blkV_rises b
  have h64 := blkV_len b
  have hp := placeN_le (blkV b) k
  repeat' (first | with_reducible apply Stp.go | with_reducible refine imp fun _ => ?_ | (with_reducible refine hyp ?_ ?_; first | assumption | exact leftT_mem (by assumption)) | (with_reducible refine need ?_ ?_; first | trivial | omega | exact ⟨by assumption, by omega⟩ | (simp only [List.length_append, List.length_cons, List.length_nil, List.length_map, List.length_take, List.length_drop, List.length_replicate]; omega)) | (with_reducible refine fact ?_ ?_; first | trivial | exact ⟨rfl, rfl⟩ | kernel_rfl) | with_reducible refine choT (by assumption) ?_ | with_reducible refine choF (by assumption) ?_ | with_reducible refine choF' (by assumption) ?_ | (with_reducible refine altT ?_ ?_; first | omega | (simp only [List.length_append, List.length_cons, List.length_nil, List.length_map, List.length_take, List.length_drop, List.length_replicate]; omega)) | with_reducible refine altF ?_ | with_reducible refine all fun _ => ?_ | with_reducible refine both ?_ ?_ | (with_reducible refine choT ?_ ?_; omega) | (with_reducible refine choF ?_ ?_; omega) | with_reducible refine cho (fun _ => ?_) (fun _ => ?_))
  · rename_i a h0
    refine loopI (β := Nat) (fun i => i ≤ placeN (blkV b) k) (fun i => [S k, ptrAt a 0, .lst 4 ((blkV b).map En.av) .ro, I .i64 (i : Nat)]) (fun _ => [.var a 35 En.zero.cs]) (fun i => (blkV b).length - i) 0 (Nat.zero_le _) (Sub.refl _ _) ?_
    intro i hi
    repeat' (first | with_reducible apply Stp.go | with_reducible refine imp fun _ => ?_ | (with_reducible refine hyp ?_ ?_; first | assumption | exact leftT_mem (by assumption)) | (with_reducible refine need ?_ ?_; first | trivial | omega | exact ⟨by assumption, by omega⟩ | (simp only [List.length_append, List.length_cons, List.length_nil, List.length_map, List.length_take, List.length_drop, List.length_replicate]; omega)) | (with_reducible refine fact ?_ ?_; first | trivial | exact ⟨rfl, rfl⟩ | kernel_rfl) | with_reducible refine choT (by assumption) ?_ | with_reducible refine choF (by assumption) ?_ | with_reducible refine choF' (by assumption) ?_ | (with_reducible refine altT ?_ ?_; first | omega | (simp only [List.length_append, List.length_cons, List.length_nil, List.length_map, List.length_take, List.length_drop, List.length_replicate]; omega)) | with_reducible refine altF ?_ | with_reducible refine all fun _ => ?_ | with_reducible refine both ?_ ?_ | (with_reducible refine choT ?_ ?_; omega) | (with_reducible refine choF ?_ ?_; omega) | with_reducible refine cho (fun _ => ?_) (fun _ => ?_))
    · rename_i h1 h2
      have h3 := (place_at hr k h1).1 h2
      exact again (i + 1) (by omega) (by omega) (Sub.refl _ _)
    · rename_i h1 h2
      have h3 := mt (place_at hr k h1).2 h2
      have e : i = placeN (blkV b) k := by omega
      have e1 : seekH b k = true := by rw [seekH, decide_eq_true h0, decide_eq_true (show placeN (blkV b) k < (blkV b).length by omega)]; rfl
      refine ⟨_, _, _, rfl, Sub.app_nil _, ?_, rfl⟩
      rw [seekV, e1, if_pos rfl, h0, e]
    · rename_i h1
      have e1 : seekH b k = false := by rw [seekH, decide_eq_false (show ¬ placeN (blkV b) k < (blkV b).length by omega), Bool.and_false]
      refine ⟨_, _, _, rfl, Sub.app_nil _, ?_, rfl⟩
      rw [seekV, e1, if_neg (by decide), h0]; rfl
  · rename_i a h0
    have e1 : seekH b k = false := by rw [seekH, decide_eq_false h0, Bool.false_and]
    refine ⟨_, _, _, rfl, Sub.app_nil _, ?_, rfl⟩
    rw [seekV, e1, if_neg (by decide)]; rfl
instance {l k : List UInt8} : PC Go.Proofs.Try.prog 28 [S l, S k] (l.length ≤ 1000000000) (.tuple [(seekV l k).av, B (seekH l k), I .i64 (blkX l)]) := ⟨fun hl => PC.of (ref04_Seek_ok l k hl)⟩
end Go.Ab
