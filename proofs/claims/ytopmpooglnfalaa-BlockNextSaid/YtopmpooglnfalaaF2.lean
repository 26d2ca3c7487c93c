/- Functions of layers 1, 3 and 4: bytes of numbers, what keys share, their order, what is right and fit. -/
import Derived.Test.YtopmpooglnfalaaF1
set_option linter.unusedVariables false
set_option linter.unusedSimpArgs false
namespace Go.Ab
def ref01_PutFixed.mark : Mark := ⟨fun t => false, fun t => false, fun t => false, fun t => false, fun t => false⟩
def ref01_PutFixed.ann : Ann := ⟨fun n => [], fun n => none, fun n => none⟩
/-- 'marlstone/marlstoneref01.PutFixed' -/
def ref01_PutFixed.sh (a0 a1 : AV) (σ : Store) (Q : AEnd → Store → Prop) : Prop :=
  Do (aBin Go.Proofs.Try.prog .shr 59 a1 (W64 24)) fun t7 =>
  Do (fun x => aConvN 59 5 t7 x Go.Proofs.Try.prog) fun t8 =>
  Do (aBin Go.Proofs.Try.prog .shr 59 a1 (W64 16)) fun t10 =>
  Do (fun x => aConvN 59 5 t10 x Go.Proofs.Try.prog) fun t11 =>
  Do (aBin Go.Proofs.Try.prog .shr 59 a1 (W64 8)) fun t13 =>
  Do (fun x => aConvN 59 5 t13 x Go.Proofs.Try.prog) fun t14 =>
  Do (fun x => aConvN 59 5 a1 x Go.Proofs.Try.prog) fun t16 =>
  Do (aSlLit (mkE [.val (.int .u8 0)]) 1 4 [(0, t8), (1, t11), (2, t14), (3, t16)]) fun t17 =>
  Do (aConvBS t17) fun t18 =>
  Do (aBin Go.Proofs.Try.prog .add 9 a0 t18) fun t19 =>
  Q (.ret t19) σ
theorem ref01_PutFixed.eq (a0 a1 : AV) (σ : Store) (Q : AEnd → Store → Prop) : vc (semOf Go.Proofs.Try.prog ref01_PutFixed.mark) Go.Proofs.Try.f51.ntmps ref01_PutFixed.ann (bodyOf Go.Proofs.Try.f51) (endK [.tmp 4] Q) (argFr [a0, a1]) σ = ref01_PutFixed.sh a0 a1 σ Q := by kernel_rfl
theorem ref01_PutFixed.go {a0 a1 : AV} {σ : Store} {Q : AEnd → Store → Prop} (h : ref01_PutFixed.sh a0 a1 σ Q) : ACalls Go.Proofs.Try.prog 51 [a0, a1] σ Q :=
  acalls_of_eq [.tmp 4] Go.Proofs.Try.func51 (by kernel_rfl) (by kernel_rfl) (by kernel_rfl) (by kernel_rfl) (ref01_PutFixed.eq a0 a1 σ Q) h
def codec_PutFixed.mark : Mark := ⟨fun t => false, fun t => false, fun t => false, fun t => false, fun t => false⟩
def codec_PutFixed.ann : Ann := ⟨fun n => [], fun n => none, fun n => none⟩
/-- 'marlstone/codec.PutFixed' -/
def codec_PutFixed.sh (a0 a1 : AV) (σ : Store) (Q : AEnd → Store → Prop) : Prop :=
  Do (aBuiltin Go.Proofs.Try.prog .len #[25] [a0]) fun t7 =>
  Do (aBuiltin Go.Proofs.Try.prog .len #[25] [a0]) fun t9 =>
  Do (aSlice .slice 1 a0 none (some t7) (some t9)) fun t10 =>
  Do (aBin Go.Proofs.Try.prog .shr 59 a1 (W64 24)) fun t12 =>
  Do (fun x => aConvN 59 5 t12 x Go.Proofs.Try.prog) fun t13 =>
  Do (aBin Go.Proofs.Try.prog .shr 59 a1 (W64 16)) fun t15 =>
  Do (fun x => aConvN 59 5 t15 x Go.Proofs.Try.prog) fun t16 =>
  Do (aBin Go.Proofs.Try.prog .shr 59 a1 (W64 8)) fun t18 =>
  Do (fun x => aConvN 59 5 t18 x Go.Proofs.Try.prog) fun t19 =>
  Do (fun x => aConvN 59 5 a1 x Go.Proofs.Try.prog) fun t21 =>
  Do (aSlLit (mkE [.val (.int .u8 0)]) 1 4 [(0, t13), (1, t16), (2, t19), (3, t21)]) fun t22 =>
  aAppend 5 1 1 t10 t22 σ (subK fun t23 σ =>
  Q (.ret t23) σ)
theorem codec_PutFixed.eq (a0 a1 : AV) (σ : Store) (Q : AEnd → Store → Prop) : vc (semOf Go.Proofs.Try.prog codec_PutFixed.mark) Go.Proofs.Try.f46.ntmps codec_PutFixed.ann (bodyOf Go.Proofs.Try.f46) (endK [.tmp 4] Q) (argFr [a0, a1]) σ = codec_PutFixed.sh a0 a1 σ Q := by kernel_rfl
theorem codec_PutFixed.go {a0 a1 : AV} {σ : Store} {Q : AEnd → Store → Prop} (h : codec_PutFixed.sh a0 a1 σ Q) : ACalls Go.Proofs.Try.prog 46 [a0, a1] σ Q :=
  acalls_of_eq [.tmp 4] Go.Proofs.Try.func46 (by kernel_rfl) (by kernel_rfl) (by kernel_rfl) (by kernel_rfl) (codec_PutFixed.eq a0 a1 σ Q) h
theorem fixed_w (v : UInt32) : [UInt8.ofNat (v >>> UInt32.ofNat 24).toNat, UInt8.ofNat (v >>> UInt32.ofNat 16).toNat, UInt8.ofNat (v >>> UInt32.ofNat 8).toNat, UInt8.ofNat v.toNat] = fixed v.toNat := by
  have h : ∀ n : Nat, UInt8.ofNat n = UInt8.ofNat (n % 256) := fun n => by apply UInt8.toNat.inj; simp
  have h1 : (v >>> UInt32.ofNat 24).toNat = v.toNat / 16777216 := by simp [Nat.shiftRight_eq_div_pow]
  have h2 : (v >>> UInt32.ofNat 16).toNat = v.toNat / 65536 := by simp [Nat.shiftRight_eq_div_pow]
  have h3 : (v >>> UInt32.ofNat 8).toNat = v.toNat / 256 := by simp [Nat.shiftRight_eq_div_pow]
  unfold fixed
  rw [h1, h2, h3, h (v.toNat / 16777216), h (v.toNat / 65536), h (v.toNat / 256), h v.toNat]
theorem ref01_PutFixed_ok (l : List UInt8) (v : UInt32) (hl : l.length ≤ 1000000000000) : aPure Go.Proofs.Try.prog 51 [S l, W32 v] (S (l ++ fixed v.toNat)) := by
  refine ref01_PutFixed.go ?_
  unfold ref01_PutFixed.sh
  repeat' (first | with_reducible apply Stp.go | with_reducible refine imp fun _ => ?_ | (with_reducible refine hyp ?_ ?_; first | assumption | exact leftT_mem (by assumption)) | (with_reducible refine need ?_ ?_; first | trivial | omega | (simp only [List.length_append, List.length_cons, List.length_nil, List.length_map, List.length_take, List.length_drop, List.length_replicate]; omega)) | (with_reducible refine fact ?_ ?_; first | trivial | exact ⟨rfl, rfl⟩ | kernel_rfl) | with_reducible refine choT (by assumption) ?_ | with_reducible refine choF (by assumption) ?_ | with_reducible refine choF' (by assumption) ?_ | (with_reducible refine altT ?_ ?_; first | omega | (simp only [List.length_append, List.length_cons, List.length_nil, List.length_map, List.length_take, List.length_drop, List.length_replicate]; omega)) | with_reducible refine altF ?_ | with_reducible refine all fun _ => ?_ | with_reducible refine both ?_ ?_ | (with_reducible refine choT ?_ ?_; omega) | (with_reducible refine choF ?_ ?_; omega) | with_reducible refine cho (fun _ => ?_) (fun _ => ?_))
  rw [fixed_w]
  exact ⟨rfl, rfl⟩
instance (l : List UInt8) (v : UInt32) : PC Go.Proofs.Try.prog 51 [S l, W32 v] (l.length ≤ 1000000000000) (S (l ++ fixed v.toNat)) := ⟨fun h => PC.of (ref01_PutFixed_ok l v h)⟩
instance (priority := 1100) (l : List UInt8) (n : Nat) : PC Go.Proofs.Try.prog 51 [S l, W32 (UInt32.ofNat n)] (n < 4294967296 ∧ l.length ≤ 1000000000000) (S (l ++ fixed n)) := ⟨fun h => by
  have := ref01_PutFixed_ok l (UInt32.ofNat n) h.2
  rw [u32_len h.1] at this
  exact PC.of this⟩
theorem codec_PutFixed_ok (l : List UInt8) (m : SM) (v : UInt32) (hl : l.length ≤ 1000000000000) (τ : Store) :
    ACalls Go.Proofs.Try.prog 46 [.lst 1 (l.map byt) m, W32 v] τ fun x σ' => ∃ y, x = .ret (.own y (l ++ fixed v.toNat).length) ∧ σ' = .row y 5 1 ((l ++ fixed v.toNat).map byt) 0 :: τ := by
  refine codec_PutFixed.go ?_
  unfold codec_PutFixed.sh
  repeat' (first | with_reducible apply Stp.go | with_reducible refine imp fun _ => ?_ | (with_reducible refine hyp ?_ ?_; first | assumption | exact leftT_mem (by assumption)) | (with_reducible refine need ?_ ?_; first | trivial | omega | (simp only [List.length_append, List.length_cons, List.length_nil, List.length_map, List.length_take, List.length_drop, List.length_replicate]; omega)) | (with_reducible refine fact ?_ ?_; first | trivial | exact ⟨rfl, rfl⟩ | kernel_rfl) | with_reducible refine choT (by assumption) ?_ | with_reducible refine choF (by assumption) ?_ | with_reducible refine choF' (by assumption) ?_ | (with_reducible refine altT ?_ ?_; first | omega | (simp only [List.length_append, List.length_cons, List.length_nil, List.length_map, List.length_take, List.length_drop, List.length_replicate]; omega)) | with_reducible refine altF ?_ | with_reducible refine all fun _ => ?_ | with_reducible refine both ?_ ?_ | (with_reducible refine choT ?_ ?_; omega) | (with_reducible refine choF ?_ ?_; omega) | with_reducible refine cho (fun _ => ?_) (fun _ => ?_))
  rw [fixed_w]
  exact ⟨_, rfl, rfl⟩
instance {a : AV} {l : List UInt8} {m : SM} {v : UInt32} {τ : Store} [h : IsL a byt 1 l m] : EC Go.Proofs.Try.prog 46 [a, W32 v] τ (l.length ≤ 1000000000000) Value (fun y => .own y (l ++ fixed v.toNat).length) (fun y => .row y 5 1 ((l ++ fixed v.toNat).map byt) 0 :: τ) :=
  ⟨fun hl => (codec_PutFixed_ok l m v hl τ).subV ⟨h.sub, SubVs.refl _⟩⟩
instance (priority := 1100) {a : AV} {l : List UInt8} {m : SM} {n : Nat} {τ : Store} [h : IsL a byt 1 l m] : EC Go.Proofs.Try.prog 46 [a, W32 (UInt32.ofNat n)] τ (n < 4294967296 ∧ l.length ≤ 1000000000000) Value (fun y => .own y (l ++ fixed n).length) (fun y => .row y 5 1 ((l ++ fixed n).map byt) 0 :: τ) :=
  ⟨fun hl => by
    have := (codec_PutFixed_ok l m (UInt32.ofNat n) hl.2 τ).subV (args := [a, W32 (UInt32.ofNat n)]) ⟨h.sub, SubVs.refl _⟩
    rw [u32_len hl.1] at this
    exact this⟩
def block_shared.mark : Mark := ⟨fun t => Nat.beq t 16, fun t => false, fun t => false, fun t => false, fun t => false⟩
def block_shared.ann : Ann := ⟨fun n => bif Nat.beq n 2 then [0, 1, 5] else [], fun n => none, fun n => none⟩
/-- 'marlstone/block.shared' -/
def block_shared.sh (a0 a1 : AV) (σ : Store) (Q : AEnd → Store → Prop) : Prop :=
  aLoop (fun go vs σ =>
    At vs 0 fun s0 => At vs 1 fun s1 => At vs 2 fun s5 => Do (aBuiltin Go.Proofs.Try.prog .len #[9] [s0]) fun t8 =>
    Do (aBin Go.Proofs.Try.prog .lss 3 s5 t8) fun t9 =>
    Do (aGuard t9 true (aIs s1)) fun t11 =>
    Do (aGuard t9 true (aIs s0)) fun t12 =>
    Do (aGuard t9 true (aIs s5)) fun t13 =>
    Do (aGuard t9 true (aBin Go.Proofs.Try.prog .add 3 t13 (.val (.int .i64 1)))) fun t14 =>
    Do (aGuard t9 true (aSlice .string 1 t12 none (some t14) none)) fun t15 =>
    Do (aGuard t9 true (aPureC Go.Proofs.Try.prog 73 [t11, t15])) fun t16 =>
    Do (aPick t9 t16 (.val (.bool false))) fun t17 =>
    aCond t17
      (Do (aBin Go.Proofs.Try.prog .add 3 s5 (.val (.int .i64 1))) fun t19 =>
    go [s0, s1, t19] σ)
      (Q (.ret s5) σ))
    [a0, a1, (.val (.int .i64 0))] σ
theorem block_shared.eq (a0 a1 : AV) (σ : Store) (Q : AEnd → Store → Prop) : vc (semOf Go.Proofs.Try.prog block_shared.mark) Go.Proofs.Try.f47.ntmps block_shared.ann (bodyOf Go.Proofs.Try.f47) (endK [.tmp 4] Q) (argFr [a0, a1]) σ = block_shared.sh a0 a1 σ Q := by kernel_rfl
theorem block_shared.go {a0 a1 : AV} {σ : Store} {Q : AEnd → Store → Prop} (h : block_shared.sh a0 a1 σ Q) : ACalls Go.Proofs.Try.prog 47 [a0, a1] σ Q :=
  acalls_of_eq [.tmp 4] Go.Proofs.Try.func47 (by kernel_rfl) (by kernel_rfl) (by kernel_rfl) (by kernel_rfl) (block_shared.eq a0 a1 σ Q) h
def ref04_common.mark : Mark := ⟨fun t => false, fun t => false, fun t => false, fun t => false, fun t => false⟩
def ref04_common.ann : Ann := ⟨fun n => bif Nat.beq n 2 then [0, 1, 5] else [], fun n => none, fun n => none⟩
/-- 'marlstone/marlstoneref04.common' -/
def ref04_common.sh (a0 a1 : AV) (σ : Store) (Q : AEnd → Store → Prop) : Prop :=
  aLoop (fun go vs σ =>
    At vs 0 fun s0 => At vs 1 fun s1 => At vs 2 fun s5 => Do (aBuiltin Go.Proofs.Try.prog .len #[9] [s0]) fun t8 =>
    Do (aBin Go.Proofs.Try.prog .lss 3 s5 t8) fun t9 =>
    Do (aGuard t9 true (aIs s5)) fun t11 =>
    Do (aGuard t9 true (aIs s1)) fun t12 =>
    Do (aGuard t9 true (aBuiltin Go.Proofs.Try.prog .len #[9] [t12])) fun t13 =>
    Do (aGuard t9 true (aBin Go.Proofs.Try.prog .lss 3 t11 t13)) fun t14 =>
    Do (aPick t9 t14 (.val (.bool false))) fun t15 =>
    Do (aGuard t15 true (aIs s0)) fun t17 =>
    Do (aGuard t15 true (aIs s5)) fun t18 =>
    Do (aGuard t15 true (aIndex .string false 1 t17 t18)) fun t19 =>
    Do (aGuard t15 true (aIs s1)) fun t20 =>
    Do (aGuard t15 true (aIs s5)) fun t21 =>
    Do (aGuard t15 true (aIndex .string false 1 t20 t21)) fun t22 =>
    Do (aGuard t15 true (aBin Go.Proofs.Try.prog .eql 5 t19 t22)) fun t23 =>
    Do (aPick t15 t23 (.val (.bool false))) fun t24 =>
    aCond t24
      (Do (aBin Go.Proofs.Try.prog .add 3 s5 (.val (.int .i64 1))) fun t26 =>
    go [s0, s1, t26] σ)
      (Q (.ret s5) σ))
    [a0, a1, (.val (.int .i64 0))] σ
theorem ref04_common.eq (a0 a1 : AV) (σ : Store) (Q : AEnd → Store → Prop) : vc (semOf Go.Proofs.Try.prog ref04_common.mark) Go.Proofs.Try.f52.ntmps ref04_common.ann (bodyOf Go.Proofs.Try.f52) (endK [.tmp 4] Q) (argFr [a0, a1]) σ = ref04_common.sh a0 a1 σ Q := by kernel_rfl
theorem ref04_common.go {a0 a1 : AV} {σ : Store} {Q : AEnd → Store → Prop} (h : ref04_common.sh a0 a1 σ Q) : ACalls Go.Proofs.Try.prog 52 [a0, a1] σ Q :=
  acalls_of_eq [.tmp 4] Go.Proofs.Try.func52 (by kernel_rfl) (by kernel_rfl) (by kernel_rfl) (by kernel_rfl) (ref04_common.eq a0 a1 σ Q) h
theorem shared_ok (a b : List UInt8) (ha : a.length ≤ 1000000000000) : aPure Go.Proofs.Try.prog 47 [S a, S b] (.val (.int .i64 (common a b : Nat))) := by
  refine block_shared.go ?_
  unfold block_shared.sh
  have hc := common_le a b
  refine loopI (β := Nat) (fun i => i ≤ common a b) (fun i => [S a, S b, .val (.int .i64 (i : Nat))]) (fun _ => []) (fun i => a.length - i) 0 (by omega) (Sub.refl _ _) ?_
  intro i hi
  repeat' (first | with_reducible apply Stp.go | with_reducible refine imp fun _ => ?_ | (with_reducible refine hyp ?_ ?_; first | assumption | exact leftT_mem (by assumption)) | (with_reducible refine need ?_ ?_; first | trivial | omega | (simp only [List.length_append, List.length_cons, List.length_nil, List.length_map, List.length_take, List.length_drop, List.length_replicate]; omega)) | (with_reducible refine fact ?_ ?_; first | trivial | exact ⟨rfl, rfl⟩ | kernel_rfl) | with_reducible refine choT (by assumption) ?_ | with_reducible refine choF (by assumption) ?_ | with_reducible refine choF' (by assumption) ?_ | (with_reducible refine altT ?_ ?_; first | omega | (simp only [List.length_append, List.length_cons, List.length_nil, List.length_map, List.length_take, List.length_drop, List.length_replicate]; omega)) | with_reducible refine altF ?_ | with_reducible refine all fun _ => ?_ | with_reducible refine both ?_ ?_ | (with_reducible refine choT ?_ ?_; omega) | (with_reducible refine choF ?_ ?_; omega) | with_reducible refine cho (fun _ => ?_) (fun _ => ?_))
  · rename_i h1 h
    have e : (a.take (i + 1)).length = i + 1 := by rw [List.length_take]; omega
    rw [e, common_take _ _ _ (by omega)] at h
    exact again (i + 1) (by omega) h (Sub.refl _ _)
  · rename_i h1 h
    have e : (a.take (i + 1)).length = i + 1 := by rw [List.length_take]; omega
    rw [e, common_take _ _ _ (by omega)] at h
    have : i = common a b := by omega
    exact ⟨by rw [this], rfl⟩
  · have : i = common a b := by omega
    exact ⟨by rw [this], rfl⟩
instance (a b : List UInt8) : PC Go.Proofs.Try.prog 47 [S a, S b] (a.length ≤ 1000000000000) (.val (.int .i64 (common a b : Nat))) := ⟨fun h => PC.of (shared_ok a b h)⟩
theorem common_ok (a b : List UInt8) (ha : a.length ≤ 1000000000000) : aPure Go.Proofs.Try.prog 52 [S a, S b] (.val (.int .i64 (common a b : Nat))) := by
  refine ref04_common.go ?_
  unfold ref04_common.sh
  have hc := common_le a b
  refine loopI (β := Nat) (fun i => i ≤ common a b) (fun i => [S a, S b, .val (.int .i64 (i : Nat))]) (fun _ => []) (fun i => a.length - i) 0 (by omega) (Sub.refl _ _) ?_
  intro i hi
  repeat' (first | with_reducible apply Stp.go | with_reducible refine imp fun _ => ?_ | (with_reducible refine hyp ?_ ?_; first | assumption | exact leftT_mem (by assumption)) | (with_reducible refine need ?_ ?_; first | trivial | omega | (simp only [List.length_append, List.length_cons, List.length_nil, List.length_map, List.length_take, List.length_drop, List.length_replicate]; omega)) | (with_reducible refine fact ?_ ?_; first | trivial | exact ⟨rfl, rfl⟩ | kernel_rfl) | with_reducible refine choT (by assumption) ?_ | with_reducible refine choF (by assumption) ?_ | with_reducible refine choF' (by assumption) ?_ | (with_reducible refine altT ?_ ?_; first | omega | (simp only [List.length_append, List.length_cons, List.length_nil, List.length_map, List.length_take, List.length_drop, List.length_replicate]; omega)) | with_reducible refine altF ?_ | with_reducible refine all fun _ => ?_ | with_reducible refine both ?_ ?_ | (with_reducible refine choT ?_ ?_; omega) | (with_reducible refine choF ?_ ?_; omega) | with_reducible refine cho (fun _ => ?_) (fun _ => ?_))
  · rename_i h1 h2 h
    have h := (common_get hi (by omega) (by omega)).1 (UInt8.toNat_inj.1 h)
    exact again (i + 1) (by omega) h (Sub.refl _ _)
  · rename_i h1 h2 h
    have h := mt (common_get hi (by omega) (by omega)).2 (fun e => h (by rw [e]))
    have : i = common a b := by omega
    exact ⟨by rw [this], rfl⟩
  · have : i = common a b := by omega
    exact ⟨by rw [this], rfl⟩
  · have : i = common a b := by omega
    exact ⟨by rw [this], rfl⟩
instance (a b : List UInt8) : PC Go.Proofs.Try.prog 52 [S a, S b] (a.length ≤ 1000000000000) (.val (.int .i64 (common a b : Nat))) := ⟨fun h => PC.of (common_ok a b h)⟩
def cmp_isNaN.mark : Mark := ⟨fun t => false, fun t => false, fun t => false, fun t => false, fun t => false⟩
def cmp_isNaN.ann : Ann := ⟨fun n => [], fun n => none, fun n => none⟩
/-- 'cmp.isNaN[string]' -/
def cmp_isNaN.sh (a0 : AV) (σ : Store) (Q : AEnd → Store → Prop) : Prop :=
  Do (aBin Go.Proofs.Try.prog .neq 9 a0 a0) fun t5 =>
  Q (.ret t5) σ
theorem cmp_isNaN.eq (a0 : AV) (σ : Store) (Q : AEnd → Store → Prop) : vc (semOf Go.Proofs.Try.prog cmp_isNaN.mark) Go.Proofs.Try.f86.ntmps cmp_isNaN.ann (bodyOf Go.Proofs.Try.f86) (endK [.tmp 2] Q) (argFr [a0]) σ = cmp_isNaN.sh a0 σ Q := by kernel_rfl
theorem cmp_isNaN.go {a0 : AV} {σ : Store} {Q : AEnd → Store → Prop} (h : cmp_isNaN.sh a0 σ Q) : ACalls Go.Proofs.Try.prog 86 [a0] σ Q :=
  acalls_of_eq [.tmp 2] Go.Proofs.Try.func86 (by kernel_rfl) (by kernel_rfl) (by kernel_rfl) (by kernel_rfl) (cmp_isNaN.eq a0 σ Q) h
def cmp_Compare.mark : Mark := ⟨fun t => Nat.beq t 8 || Nat.beq t 10, fun t => false, fun t => false, fun t => false, fun t => false⟩
def cmp_Compare.ann : Ann := ⟨fun n => [], fun n => none, fun n => none⟩
/-- 'cmp.Compare[string]' -/
def cmp_Compare.sh (a0 a1 : AV) (σ : Store) (Q : AEnd → Store → Prop) : Prop :=
  Do (aPureC Go.Proofs.Try.prog 86 [a0]) fun t8 =>
  Do (aPureC Go.Proofs.Try.prog 86 [a1]) fun t10 =>
  aCond t8
    (aCond t10
      (Q (.ret (.val (.int .i64 0))) σ)
      (Q (.ret (.val (.int .i64 (-1)))) σ))
    (aCond t10
    (Q (.ret (.val (.int .i64 1))) σ)
    (Do (aBin Go.Proofs.Try.prog .lss 9 a0 a1) fun t16 =>
  aCond t16
    (Q (.ret (.val (.int .i64 (-1)))) σ)
    (Do (aBin Go.Proofs.Try.prog .gtr 9 a0 a1) fun t19 =>
  aCond t19
    (Q (.ret (.val (.int .i64 1))) σ)
    (Q (.ret (.val (.int .i64 0))) σ))))
theorem cmp_Compare.eq (a0 a1 : AV) (σ : Store) (Q : AEnd → Store → Prop) : vc (semOf Go.Proofs.Try.prog cmp_Compare.mark) Go.Proofs.Try.f74.ntmps cmp_Compare.ann (bodyOf Go.Proofs.Try.f74) (endK [.tmp 4] Q) (argFr [a0, a1]) σ = cmp_Compare.sh a0 a1 σ Q := by kernel_rfl
theorem cmp_Compare.go {a0 a1 : AV} {σ : Store} {Q : AEnd → Store → Prop} (h : cmp_Compare.sh a0 a1 σ Q) : ACalls Go.Proofs.Try.prog 74 [a0, a1] σ Q :=
  acalls_of_eq [.tmp 4] Go.Proofs.Try.func74 (by kernel_rfl) (by kernel_rfl) (by kernel_rfl) (by kernel_rfl) (cmp_Compare.eq a0 a1 σ Q) h
def entry_byKey.mark : Mark := ⟨fun t => Nat.beq t 9, fun t => false, fun t => Nat.beq t 2 || Nat.beq t 3, fun t => Nat.beq t 6 || Nat.beq t 8, fun t => false⟩
def entry_byKey.ann : Ann := ⟨fun n => [], fun n => none, fun n => none⟩
/-- 'marlstone/entry.byKey' -/
def entry_byKey.sh (a0 a1 : AV) (σ : Store) (Q : AEnd → Store → Prop) : Prop :=
  Do (aFreeze ((a0 : AV)).cells) fun t2 =>
  Do (aFreeze ((a1 : AV)).cells) fun t3 =>
  Do (aFieldAddr 0 1 t2) fun t5 =>
  Do (loadF false 1 t5) fun t6 =>
  Do (aFieldAddr 0 1 t3) fun t7 =>
  Do (loadF false 1 t7) fun t8 =>
  Do (aPureC Go.Proofs.Try.prog 74 [t6, t8]) fun t9 =>
  Q (.ret t9) σ
theorem entry_byKey.eq (a0 a1 : AV) (σ : Store) (Q : AEnd → Store → Prop) : vc (semOf Go.Proofs.Try.prog entry_byKey.mark) Go.Proofs.Try.f55.ntmps entry_byKey.ann (bodyOf Go.Proofs.Try.f55) (endK [.tmp 4] Q) (argFr [a0, a1]) σ = entry_byKey.sh a0 a1 σ Q := by kernel_rfl
theorem entry_byKey.go {a0 a1 : AV} {σ : Store} {Q : AEnd → Store → Prop} (h : entry_byKey.sh a0 a1 σ Q) : ACalls Go.Proofs.Try.prog 55 [a0, a1] σ Q :=
  acalls_of_eq [.tmp 4] Go.Proofs.Try.func55 (by kernel_rfl) (by kernel_rfl) (by kernel_rfl) (by kernel_rfl) (entry_byKey.eq a0 a1 σ Q) h
theorem isNaN_ok (a : List UInt8) : aPure Go.Proofs.Try.prog 86 [S a] (B false) := by
  refine cmp_isNaN.go ?_
  unfold cmp_isNaN.sh
  repeat' (first | with_reducible apply Stp.go | with_reducible refine imp fun _ => ?_ | (with_reducible refine hyp ?_ ?_; first | assumption | exact leftT_mem (by assumption)) | (with_reducible refine need ?_ ?_; first | trivial | omega | (simp only [List.length_append, List.length_cons, List.length_nil, List.length_map, List.length_take, List.length_drop, List.length_replicate]; omega)) | (with_reducible refine fact ?_ ?_; first | trivial | exact ⟨rfl, rfl⟩ | kernel_rfl) | with_reducible refine choT (by assumption) ?_ | with_reducible refine choF (by assumption) ?_ | with_reducible refine choF' (by assumption) ?_ | (with_reducible refine altT ?_ ?_; first | omega | (simp only [List.length_append, List.length_cons, List.length_nil, List.length_map, List.length_take, List.length_drop, List.length_replicate]; omega)) | with_reducible refine altF ?_ | with_reducible refine all fun _ => ?_ | with_reducible refine both ?_ ?_ | (with_reducible refine choT ?_ ?_; omega) | (with_reducible refine choF ?_ ?_; omega) | with_reducible refine cho (fun _ => ?_) (fun _ => ?_))
  simp
instance (a : List UInt8) : PC Go.Proofs.Try.prog 86 [S a] True (B false) := ⟨fun _ => PC.of (isNaN_ok a)⟩
theorem Compare_ok (a b : List UInt8) : aPure Go.Proofs.Try.prog 74 [S a, S b] (I .i64 (cmpK a b)) := by
  refine cmp_Compare.go ?_
  unfold cmp_Compare.sh
  repeat' (first | with_reducible apply Stp.go | with_reducible refine imp fun _ => ?_ | (with_reducible refine hyp ?_ ?_; first | assumption | exact leftT_mem (by assumption)) | (with_reducible refine need ?_ ?_; first | trivial | omega | (simp only [List.length_append, List.length_cons, List.length_nil, List.length_map, List.length_take, List.length_drop, List.length_replicate]; omega)) | (with_reducible refine fact ?_ ?_; first | trivial | exact ⟨rfl, rfl⟩ | kernel_rfl) | with_reducible refine choT (by assumption) ?_ | with_reducible refine choF (by assumption) ?_ | with_reducible refine choF' (by assumption) ?_ | (with_reducible refine altT ?_ ?_; first | omega | (simp only [List.length_append, List.length_cons, List.length_nil, List.length_map, List.length_take, List.length_drop, List.length_replicate]; omega)) | with_reducible refine altF ?_ | with_reducible refine all fun _ => ?_ | with_reducible refine both ?_ ?_ | (with_reducible refine choT ?_ ?_; omega) | (with_reducible refine choF ?_ ?_; omega) | with_reducible refine cho (fun _ => ?_) (fun _ => ?_))
  all_goals (refine ⟨?_, by first | rfl | trivial⟩; simp_all [cmpK])
instance (a b : List UInt8) : PC Go.Proofs.Try.prog 74 [S a, S b] True (I .i64 (cmpK a b)) := ⟨fun _ => PC.of (Compare_ok a b)⟩
theorem byKey_ok (a b : En) : aPure Go.Proofs.Try.prog 55 [a.av, b.av] (I .i64 (cmpK a.key b.key)) := by
  refine entry_byKey.go ?_
  unfold entry_byKey.sh
  repeat' (first | with_reducible apply Stp.go | with_reducible refine imp fun _ => ?_ | (with_reducible refine hyp ?_ ?_; first | assumption | exact leftT_mem (by assumption)) | (with_reducible refine need ?_ ?_; first | trivial | omega | (simp only [List.length_append, List.length_cons, List.length_nil, List.length_map, List.length_take, List.length_drop, List.length_replicate]; omega)) | (with_reducible refine fact ?_ ?_; first | trivial | exact ⟨rfl, rfl⟩ | kernel_rfl) | with_reducible refine choT (by assumption) ?_ | with_reducible refine choF (by assumption) ?_ | with_reducible refine choF' (by assumption) ?_ | (with_reducible refine altT ?_ ?_; first | omega | (simp only [List.length_append, List.length_cons, List.length_nil, List.length_map, List.length_take, List.length_drop, List.length_replicate]; omega)) | with_reducible refine altF ?_ | with_reducible refine all fun _ => ?_ | with_reducible refine both ?_ ?_ | (with_reducible refine choT ?_ ?_; omega) | (with_reducible refine choF ?_ ?_; omega) | with_reducible refine cho (fun _ => ?_) (fun _ => ?_))
  exact ⟨rfl, rfl⟩
instance (a b : En) : PC Go.Proofs.Try.prog 55 [a.av, b.av] True (I .i64 (cmpK a.key b.key)) := ⟨fun _ => PC.of (byKey_ok a b)⟩
def entry_Sorted.mark : Mark := ⟨fun t => Nat.beq t 23, fun t => false, fun t => false, fun t => Nat.beq t 17 || Nat.beq t 22, fun t => false⟩
def entry_Sorted.ann : Ann := ⟨fun n => bif Nat.beq n 2 then [0, 10, 11] else [], fun n => none, fun n => none⟩
/-- 'marlstone/entry.Sorted' -/
def entry_Sorted.sh (a0 : AV) (σ : Store) (Q : AEnd → Store → Prop) : Prop :=
  Do (aBuiltin Go.Proofs.Try.prog .len #[22] [a0]) fun t6 =>
  Do (aBuiltin Go.Proofs.Try.prog .max #[3, 3] [t6, (.val (.int .i64 1))]) fun t7 =>
  Do (aBin Go.Proofs.Try.prog .sub 3 t7 (.val (.int .i64 1))) fun t8 =>
  Do (aSlice .slice 4 a0 none (some t8) none) fun t9 =>
  Do (aBuiltin Go.Proofs.Try.prog .len #[22] [t9]) fun t10 =>
  aLoop (fun go vs σ =>
    At vs 0 fun s0 => At vs 1 fun s10 => At vs 2 fun s11 => Do (aBin Go.Proofs.Try.prog .lss 3 s11 s10) fun t12 =>
    aCond t12
      (Do (aIndexAddr .slice 4 s0 s11) fun t16 =>
    Do (loadF true 4 t16) fun t17 =>
    Do (aBin Go.Proofs.Try.prog .add 3 s11 (.val (.int .i64 1))) fun t20 =>
    Do (aIndexAddr .slice 4 s0 t20) fun t21 =>
    Do (loadF true 4 t21) fun t22 =>
    Do (aPureC Go.Proofs.Try.prog 55 [t17, t22]) fun t23 =>
    Do (aBin Go.Proofs.Try.prog .geq 3 t23 (.val (.int .i64 0))) fun t24 =>
    aCond t24
      (Q (.ret (.val (.bool false))) σ)
      (Do (aBin Go.Proofs.Try.prog .add 3 s11 (.val (.int .i64 1))) fun t25 =>
    go [s0, s10, t25] σ))
      (Q (.ret (.val (.bool true))) σ))
    [a0, t10, (.val (.int .i64 0))] σ
theorem entry_Sorted.eq (a0 : AV) (σ : Store) (Q : AEnd → Store → Prop) : vc (semOf Go.Proofs.Try.prog entry_Sorted.mark) Go.Proofs.Try.f23.ntmps entry_Sorted.ann (bodyOf Go.Proofs.Try.f23) (endK [.tmp 2] Q) (argFr [a0]) σ = entry_Sorted.sh a0 σ Q := by kernel_rfl
theorem entry_Sorted.go {a0 : AV} {σ : Store} {Q : AEnd → Store → Prop} (h : entry_Sorted.sh a0 σ Q) : ACalls Go.Proofs.Try.prog 23 [a0] σ Q :=
  acalls_of_eq [.tmp 2] Go.Proofs.Try.func23 (by kernel_rfl) (by kernel_rfl) (by kernel_rfl) (by kernel_rfl) (entry_Sorted.eq a0 σ Q) h
def ref03_Sorted.mark : Mark := ⟨fun t => false, fun t => false, fun t => false, fun t => Nat.beq t 15 || Nat.beq t 20, fun t => false⟩
def ref03_Sorted.ann : Ann := ⟨fun n => bif Nat.beq n 2 then [0, 3] else [], fun n => none, fun n => none⟩
/-- 'marlstone/marlstoneref03.Sorted' -/
def ref03_Sorted.sh (a0 : AV) (σ : Store) (Q : AEnd → Store → Prop) : Prop :=
  aLoop (fun go vs σ =>
    At vs 0 fun s0 => At vs 1 fun s3 => Do (aBuiltin Go.Proofs.Try.prog .len #[22] [s0]) fun t6 =>
    Do (aBin Go.Proofs.Try.prog .lss 3 s3 t6) fun t7 =>
    aCond t7
      (Do (aBin Go.Proofs.Try.prog .sub 3 s3 (.val (.int .i64 1))) fun t12 =>
    Do (aIndexAddr .slice 4 s0 t12) fun t13 =>
    Do (aFieldAddr 0 1 t13) fun t14 =>
    Do (loadF false 1 t14) fun t15 =>
    Do (aIndexAddr .slice 4 s0 s3) fun t18 =>
    Do (aFieldAddr 0 1 t18) fun t19 =>
    Do (loadF false 1 t19) fun t20 =>
    Do (aBin Go.Proofs.Try.prog .geq 9 t15 t20) fun t21 =>
    aCond t21
      (Q (.ret (.val (.bool false))) σ)
      (Do (aBin Go.Proofs.Try.prog .add 3 s3 (.val (.int .i64 1))) fun t9 =>
    go [s0, t9] σ))
      (Q (.ret (.val (.bool true))) σ))
    [a0, (.val (.int .i64 1))] σ
theorem ref03_Sorted.eq (a0 : AV) (σ : Store) (Q : AEnd → Store → Prop) : vc (semOf Go.Proofs.Try.prog ref03_Sorted.mark) Go.Proofs.Try.f38.ntmps ref03_Sorted.ann (bodyOf Go.Proofs.Try.f38) (endK [.tmp 2] Q) (argFr [a0]) σ = ref03_Sorted.sh a0 σ Q := by kernel_rfl
theorem ref03_Sorted.go {a0 : AV} {σ : Store} {Q : AEnd → Store → Prop} (h : ref03_Sorted.sh a0 σ Q) : ACalls Go.Proofs.Try.prog 38 [a0] σ Q :=
  acalls_of_eq [.tmp 2] Go.Proofs.Try.func38 (by kernel_rfl) (by kernel_rfl) (by kernel_rfl) (by kernel_rfl) (ref03_Sorted.eq a0 σ Q) h
theorem Sorted_ok (l : List En) (m : SM) (hl : l.length ≤ 1000000000000) : aPure Go.Proofs.Try.prog 23 [.lst 4 (l.map En.av) m] (B (sorted l)) := by
  refine entry_Sorted.go ?_
  unfold entry_Sorted.sh
  repeat' (first | with_reducible apply Stp.go | with_reducible refine imp fun _ => ?_ | (with_reducible refine hyp ?_ ?_; first | assumption | exact leftT_mem (by assumption)) | (with_reducible refine need ?_ ?_; first | trivial | omega | (simp only [List.length_append, List.length_cons, List.length_nil, List.length_map, List.length_take, List.length_drop, List.length_replicate]; omega)) | (with_reducible refine fact ?_ ?_; first | trivial | exact ⟨rfl, rfl⟩ | kernel_rfl) | with_reducible refine choT (by assumption) ?_ | with_reducible refine choF (by assumption) ?_ | with_reducible refine choF' (by assumption) ?_ | (with_reducible refine altT ?_ ?_; first | omega | (simp only [List.length_append, List.length_cons, List.length_nil, List.length_map, List.length_take, List.length_drop, List.length_replicate]; omega)) | with_reducible refine altF ?_ | with_reducible refine all fun _ => ?_ | with_reducible refine both ?_ ?_ | (with_reducible refine choT ?_ ?_; omega) | (with_reducible refine choF ?_ ?_; omega) | with_reducible refine cho (fun _ => ?_) (fun _ => ?_))
  refine loopI (β := Nat) (fun i => i ≤ l.length - 1 ∧ sorted l = sorted (l.drop i)) (fun i => [.lst 4 (l.map En.av) m, I .i64 ((l.length - 1 : Nat) : Int), I .i64 (i : Nat)]) (fun _ => []) (fun i => l.length - i) 0 ⟨by omega, rfl⟩ ?_ ?_
  · have e : (l.take (max l.length 1 - 1)).length = l.length - 1 := by rw [List.length_take]; omega
    rw [e]
    exact Sub.refl _ _
  rintro i ⟨hi, hs⟩
  repeat' (first | with_reducible apply Stp.go | with_reducible refine imp fun _ => ?_ | (with_reducible refine hyp ?_ ?_; first | assumption | exact leftT_mem (by assumption)) | (with_reducible refine need ?_ ?_; first | trivial | omega | (simp only [List.length_append, List.length_cons, List.length_nil, List.length_map, List.length_take, List.length_drop, List.length_replicate]; omega)) | (with_reducible refine fact ?_ ?_; first | trivial | exact ⟨rfl, rfl⟩ | kernel_rfl) | with_reducible refine choT (by assumption) ?_ | with_reducible refine choF (by assumption) ?_ | with_reducible refine choF' (by assumption) ?_ | (with_reducible refine altT ?_ ?_; first | omega | (simp only [List.length_append, List.length_cons, List.length_nil, List.length_map, List.length_take, List.length_drop, List.length_replicate]; omega)) | with_reducible refine altF ?_ | with_reducible refine all fun _ => ?_ | with_reducible refine both ?_ ?_ | (with_reducible refine choT ?_ ?_; omega) | (with_reducible refine choF ?_ ?_; omega) | with_reducible refine cho (fun _ => ?_) (fun _ => ?_))
  · rename_i h1 h
    rw [cmpK_neg] at h
    rw [hs, sorted_step (by omega), h]
    exact ⟨rfl, rfl⟩
  · rename_i h1 h
    rw [cmpK_neg, Bool.not_eq_false] at h
    refine again (i + 1) (by omega) ⟨by omega, ?_⟩ (Sub.refl _ _)
    rw [hs, sorted_step (by omega), h, Bool.true_and]
  · rw [hs, sorted_end (by omega)]
    exact ⟨rfl, rfl⟩
instance {a : AV} {l : List En} {m : SM} [h : IsL a En.av 4 l m] : PC Go.Proofs.Try.prog 23 [a] (l.length ≤ 1000000000000) (B (sorted l)) := ⟨fun hl => ⟨[.lst 4 (l.map En.av) m], ⟨h.sub, trivial⟩, Sorted_ok l m hl⟩⟩
theorem ref03_Sorted_ok (l : List En) (m : SM) (hl : l.length ≤ 1000000000000) : aPure Go.Proofs.Try.prog 38 [.lst 4 (l.map En.av) m] (B (sorted l)) := by
  refine ref03_Sorted.go ?_
  unfold ref03_Sorted.sh
  refine loopI (β := Nat) (fun i => i ≤ l.length ∧ sorted l = sorted (l.drop i)) (fun i => [.lst 4 (l.map En.av) m, I .i64 ((i + 1 : Nat) : Int)]) (fun _ => []) (fun i => l.length - i) 0 ⟨by omega, rfl⟩ (Sub.refl _ _) ?_
  rintro i ⟨hi, hs⟩
  repeat' (first | with_reducible apply Stp.go | with_reducible refine imp fun _ => ?_ | (with_reducible refine hyp ?_ ?_; first | assumption | exact leftT_mem (by assumption)) | (with_reducible refine need ?_ ?_; first | trivial | omega | (simp only [List.length_append, List.length_cons, List.length_nil, List.length_map, List.length_take, List.length_drop, List.length_replicate]; omega)) | (with_reducible refine fact ?_ ?_; first | trivial | exact ⟨rfl, rfl⟩ | kernel_rfl) | with_reducible refine choT (by assumption) ?_ | with_reducible refine choF (by assumption) ?_ | with_reducible refine choF' (by assumption) ?_ | (with_reducible refine altT ?_ ?_; first | omega | (simp only [List.length_append, List.length_cons, List.length_nil, List.length_map, List.length_take, List.length_drop, List.length_replicate]; omega)) | with_reducible refine altF ?_ | with_reducible refine all fun _ => ?_ | with_reducible refine both ?_ ?_ | (with_reducible refine choT ?_ ?_; omega) | (with_reducible refine choF ?_ ?_; omega) | with_reducible refine cho (fun _ => ?_) (fun _ => ?_))
  · rename_i h1 h
    rw [Nat.add_sub_cancel] at h
    refine again (i + 1) (by omega) ⟨by omega, ?_⟩ (Sub.refl _ _)
    rw [hs, sorted_step (by omega), show lt _ _ = true from h, Bool.true_and]
  · rename_i h1 h
    rw [Nat.add_sub_cancel] at h
    rw [hs, sorted_step (by omega), show lt _ _ = false by simpa using h]
    exact ⟨rfl, rfl⟩
  · rw [hs, sorted_end (by omega)]
    exact ⟨rfl, rfl⟩
instance {a : AV} {l : List En} {m : SM} [h : IsL a En.av 4 l m] : PC Go.Proofs.Try.prog 38 [a] (l.length ≤ 1000000000000) (B (sorted l)) := ⟨fun hl => ⟨[.lst 4 (l.map En.av) m], ⟨h.sub, trivial⟩, ref03_Sorted_ok l m hl⟩⟩
end Go.Ab
