/- The texts that this claim needs, part 5: a logic over abstract values, its steps, what the functions do. No condition of its own. -/
import Derived.Test.YtobhbepiaibceaaProg
import Derived.Test.YtobhbepiaibceaaSeekSpansK4
/- Functions of layers 1, 3 and 4: what they do. -/
set_option linter.unusedVariables false
set_option linter.unusedSimpArgs false
namespace Go.Ab
instance : KindIs Go.Proofs.Try.prog 3 .i64 := ⟨by kernel_rfl⟩
instance : KindIs Go.Proofs.Try.prog 5 .u8 := ⟨by kernel_rfl⟩
instance : StrT Go.Proofs.Try.prog 9 := ⟨by kernel_rfl⟩
instance : SlT Go.Proofs.Try.prog 22 := ⟨by kernel_rfl⟩
instance : SlT Go.Proofs.Try.prog 27 := ⟨by kernel_rfl⟩
instance : SlT Go.Proofs.Try.prog 28 := ⟨by kernel_rfl⟩
instance : SlT Go.Proofs.Try.prog 37 := ⟨by kernel_rfl⟩
instance : EnT Go.Proofs.Try.prog 54 := ⟨by kernel_rfl⟩
instance : MapT Go.Proofs.Try.prog 139 .string (.agg #[(.string ⟨#[]⟩), (.string ⟨#[]⟩), (.bool false), (.int .i64 0)]) := ⟨by kernel_rfl⟩
instance : KindIs Go.Proofs.Try.prog 143 .u64 := ⟨by kernel_rfl⟩
instance : SlT Go.Proofs.Try.prog 144 := ⟨by kernel_rfl⟩
instance : KindIs Go.Proofs.Try.prog 149 .u64 := ⟨by kernel_rfl⟩
instance : KindIs Go.Proofs.Try.prog 187 .u32 := ⟨by kernel_rfl⟩
def entry_Right.mark : Mark := ⟨fun t => false, fun t => false, fun t => Nat.beq t 1, fun t => Nat.beq t 4 || Nat.beq t 8 || Nat.beq t 14 || Nat.beq t 20 || Nat.beq t 23 || Nat.beq t 30 || Nat.beq t 35, fun t => false⟩
def entry_Right.ann : Ann := ⟨fun n => [], fun n => none, fun n => none⟩
/-- 'marlstone/entry.Right' -/
def entry_Right.sh (a0 : AV) (σ : Store) (Q : AEnd → Store → Prop) : Prop :=
  Do (aFreeze ((a0 : AV)).cells) fun t1 =>
  Do (aFieldAddr 0 1 t1) fun t3 =>
  Do (loadF false 1 t3) fun t4 =>
  Do (aBin Go.Proofs.Try.prog .neq 9 t4 (.val (.string ⟨#[]⟩))) fun t5 =>
  Do (aGuard t5 true (aFieldAddr 0 1 t1)) fun t7 =>
  Do (aGuard t5 true (loadF false 1 t7)) fun t8 =>
  Do (aGuard t5 true (aBuiltin Go.Proofs.Try.prog .len #[9] [t8])) fun t9 =>
  Do (aGuard t5 true (aBin Go.Proofs.Try.prog .leq 3 t9 (.val (.int .i64 128)))) fun t10 =>
  Do (aPick t5 t10 (.val (.bool false))) fun t11 =>
  Do (aGuard t11 true (aFieldAddr 1 1 t1)) fun t13 =>
  Do (aGuard t11 true (loadF false 1 t13)) fun t14 =>
  Do (aGuard t11 true (aBuiltin Go.Proofs.Try.prog .len #[9] [t14])) fun t15 =>
  Do (aGuard t11 true (aBin Go.Proofs.Try.prog .leq 3 t15 (.val (.int .i64 1024)))) fun t16 =>
  Do (aPick t11 t16 (.val (.bool false))) fun t17 =>
  Do (aGuard t17 true (aFieldAddr 2 1 t1)) fun t19 =>
  Do (aGuard t17 true (loadF false 1 t19)) fun t20 =>
  Do (aGuard t17 true (aIs t20)) fun t21 =>
  Do (aGuard t21 true (aFieldAddr 1 1 t1)) fun t22 =>
  Do (aGuard t21 true (loadF false 1 t22)) fun t23 =>
  Do (aGuard t21 true (aBin Go.Proofs.Try.prog .neq 9 t23 (.val (.string ⟨#[]⟩)))) fun t24 =>
  Do (aGuard t17 true (aPick t21 t24 (.val (.bool false)))) fun t25 =>
  Do (aGuard t17 true (aUn Go.Proofs.Try.prog .not t25)) fun t26 =>
  Do (aPick t17 t26 (.val (.bool false))) fun t27 =>
  Do (aGuard t27 true (aFieldAddr 3 1 t1)) fun t29 =>
  Do (aGuard t27 true (loadF false 1 t29)) fun t30 =>
  Do (aGuard t27 true (aBin Go.Proofs.Try.prog .geq 3 t30 (.val (.int .i64 1)))) fun t31 =>
  Do (aPick t27 t31 (.val (.bool false))) fun t32 =>
  Do (aGuard t32 true (aFieldAddr 3 1 t1)) fun t34 =>
  Do (aGuard t32 true (loadF false 1 t34)) fun t35 =>
  Do (aGuard t32 true (aBin Go.Proofs.Try.prog .leq 3 t35 (.val (.int .i64 1099511627776)))) fun t36 =>
  Do (aPick t32 t36 (.val (.bool false))) fun t37 =>
  Q (.ret t37) σ
theorem entry_Right.eq (a0 : AV) (σ : Store) (Q : AEnd → Store → Prop) : vc (semOf Go.Proofs.Try.prog entry_Right.mark) Go.Proofs.Try.f61.ntmps entry_Right.ann (bodyOf Go.Proofs.Try.f61) (endK [.tmp 2] Q) (argFr [a0]) σ = entry_Right.sh a0 σ Q := by kernel_rfl
theorem entry_Right.go {a0 : AV} {σ : Store} {Q : AEnd → Store → Prop} (h : entry_Right.sh a0 σ Q) : ACalls Go.Proofs.Try.prog 61 [a0] σ Q :=
  acalls_of_eq [.tmp 2] Go.Proofs.Try.func61 (by kernel_rfl) (by kernel_rfl) (by kernel_rfl) (by kernel_rfl) (entry_Right.eq a0 σ Q) h
theorem entry_Right_ok (e : En) : aPure Go.Proofs.Try.prog 61 [e.av] (B (right e)) := by
  refine entry_Right.go ?_
  unfold entry_Right.sh
  repeat' (first | with_reducible apply Stp.go | with_reducible refine imp fun _ => ?_ | (with_reducible refine hyp ?_ ?_; first | assumption | exact leftT_mem (by assumption)) | (with_reducible refine need ?_ ?_; first | trivial | omega | exact ⟨by assumption, by omega⟩ | (simp only [List.length_append, List.length_cons, List.length_nil, List.length_map, List.length_take, List.length_drop, List.length_replicate, List.length_set]; omega)) | (with_reducible refine fact ?_ ?_; first | trivial | exact ⟨rfl, rfl⟩ | kernel_rfl) | with_reducible refine choT (by assumption) ?_ | with_reducible refine choF (by assumption) ?_ | with_reducible refine choF' (by assumption) ?_ | (with_reducible refine altT ?_ ?_; first | omega | (simp only [List.length_append, List.length_cons, List.length_nil, List.length_map, List.length_take, List.length_drop, List.length_replicate, List.length_set]; omega)) | with_reducible refine altF ?_ | with_reducible refine all fun _ => ?_ | with_reducible refine both ?_ ?_ | (with_reducible refine choT ?_ ?_; omega) | (with_reducible refine choF ?_ ?_; omega) | with_reducible refine cho (fun _ => ?_) (fun _ => ?_))
  all_goals (refine ⟨?_, by first | rfl | trivial⟩; simp_all [right] <;> omega)
instance (e : En) : PC Go.Proofs.Try.prog 61 [e.av] True (B (right e)) := ⟨fun _ => PC.of (entry_Right_ok e)⟩

def codec_Put.mark : Mark := ⟨fun t => false, fun t => false, fun t => false, fun t => false, fun t => false⟩
def codec_Put.ann : Ann := ⟨fun n => bif Nat.beq n 2 then [0, 1] else [], fun n => none, fun n => none⟩
/-- 'marlstone/codec.Put' -/
def codec_Put.sh (a0 a1 : AV) (σ : Store) (Q : AEnd → Store → Prop) : Prop :=
  Do (aBuiltin Go.Proofs.Try.prog .len #[27] [a0]) fun t7 =>
  Do (aBuiltin Go.Proofs.Try.prog .len #[27] [a0]) fun t9 =>
  Do (aSlice .slice 1 a0 none (some t7) (some t9)) fun t10 =>
  aLoop (fun go vs σ =>
    At vs 0 fun s0 => At vs 1 fun s1 => Do (aBin Go.Proofs.Try.prog .geq 143 s1 (W64 128)) fun t12 =>
    aCond t12
      (Do (fun x => aConvN 143 5 s1 x Go.Proofs.Try.prog) fun t17 =>
    Do (aBin Go.Proofs.Try.prog .or 5 t17 (W8 128)) fun t18 =>
    Do (aSlLit (mkE [.val (.int .u8 0)]) 1 1 [(0, t18)]) fun t19 =>
    aAppend 5 1 1 s0 t19 σ (subK fun t20 σ_1 =>
    Do (aBin Go.Proofs.Try.prog .shr 143 s1 (W64 7)) fun t14 =>
    go [t20, t14] σ_1))
      (Do (fun x => aConvN 143 5 s1 x Go.Proofs.Try.prog) fun t23 =>
  Do (aSlLit (mkE [.val (.int .u8 0)]) 1 1 [(0, t23)]) fun t24 =>
  aAppend 5 1 1 s0 t24 σ (subK fun t25 σ_2 =>
  Q (.ret t25) σ_2)))
    [t10, a1] σ
theorem codec_Put.eq (a0 a1 : AV) (σ : Store) (Q : AEnd → Store → Prop) : vc (semOf Go.Proofs.Try.prog codec_Put.mark) Go.Proofs.Try.f102.ntmps codec_Put.ann (bodyOf Go.Proofs.Try.f102) (endK [.tmp 4] Q) (argFr [a0, a1]) σ = codec_Put.sh a0 a1 σ Q := by kernel_rfl
theorem codec_Put.go {a0 a1 : AV} {σ : Store} {Q : AEnd → Store → Prop} (h : codec_Put.sh a0 a1 σ Q) : ACalls Go.Proofs.Try.prog 102 [a0, a1] σ Q :=
  acalls_of_eq [.tmp 4] Go.Proofs.Try.func102 (by kernel_rfl) (by kernel_rfl) (by kernel_rfl) (by kernel_rfl) (codec_Put.eq a0 a1 σ Q) h
theorem u64_len {n : Nat} (h : n < 18446744073709551616) : (UInt64.ofNat n).toNat = n := by simp [UInt64.toNat_ofNat', Nat.mod_eq_of_lt h]
theorem put_w {w : UInt64} (h : 128 ≤ w.toNat) : put w.toNat = (UInt8.ofNat w.toNat ||| 128) :: put (w >>> UInt64.ofNat 7).toNat := by
  rw [put_more (by omega)]
  have e1 : (w >>> UInt64.ofNat 7).toNat = w.toNat / 128 := by simp [Nat.shiftRight_eq_div_pow]
  have e2 : UInt8.ofNat w.toNat ||| 128 = UInt8.ofNat (w.toNat % 128 + 128) := by
    apply UInt8.toNat.inj
    have := or_128 w.toNat
    rw [UInt8.toNat_or, UInt8.toNat_ofNat']
    show w.toNat % 256 ||| 128 = _
    rw [this]
    simp
    omega
  rw [e1, e2]
theorem codec_Put_ok (l : List UInt8) (m : SM) (v : UInt64) (hl : l.length ≤ 1000000000000) (τ : Store) :
    ACalls Go.Proofs.Try.prog 102 [.lst 1 (l.map byt) m, W64 v] τ fun x σ' => ∃ y, x = .ret (.own y (l ++ put v.toNat).length) ∧ σ' = .row y 5 1 ((l ++ put v.toNat).map byt) 0 :: τ := by
  refine codec_Put.go ?_
  unfold codec_Put.sh
  have hp := put_len64 (lt64 v)
  repeat' (first | with_reducible apply Stp.go | with_reducible refine imp fun _ => ?_ | (with_reducible refine hyp ?_ ?_; first | assumption | exact leftT_mem (by assumption)) | (with_reducible refine need ?_ ?_; first | trivial | omega | exact ⟨by assumption, by omega⟩ | (simp only [List.length_append, List.length_cons, List.length_nil, List.length_map, List.length_take, List.length_drop, List.length_replicate, List.length_set]; omega)) | (with_reducible refine fact ?_ ?_; first | trivial | exact ⟨rfl, rfl⟩ | kernel_rfl) | with_reducible refine choT (by assumption) ?_ | with_reducible refine choF (by assumption) ?_ | with_reducible refine choF' (by assumption) ?_ | (with_reducible refine altT ?_ ?_; first | omega | (simp only [List.length_append, List.length_cons, List.length_nil, List.length_map, List.length_take, List.length_drop, List.length_replicate, List.length_set]; omega)) | with_reducible refine altF ?_ | with_reducible refine all fun _ => ?_ | with_reducible refine both ?_ ?_ | (with_reducible refine choT ?_ ?_; omega) | (with_reducible refine choF ?_ ?_; omega) | with_reducible refine cho (fun _ => ?_) (fun _ => ?_))
  refine loopI (β := List UInt8 × UInt64 × Option Value) (fun x => l ++ put v.toNat = x.1 ++ put x.2.1.toNat ∧ x.1.length + (put x.2.1.toNat).length ≤ 1000000000010)
    (fun x => [match x.2.2 with | none => .lst 1 (x.1.map byt) .full | some y => .own y x.1.length, W64 x.2.1]) (fun x => match x.2.2 with | none => τ | some y => .row y 5 1 (x.1.map byt) 0 :: τ) (fun x => x.2.1.toNat) (l, v, none) ⟨rfl, by dsimp only; omega⟩ (Sub.refl _ _) ?_
  rintro ⟨a, w, y⟩ ⟨hw, ha⟩
  dsimp only at hw ha ⊢
  have hpw := put_len64 (lt64 w)
  cases y
  all_goals
    dsimp only
    repeat' (first | with_reducible apply Stp.go | with_reducible refine imp fun _ => ?_ | (with_reducible refine hyp ?_ ?_; first | assumption | exact leftT_mem (by assumption)) | (with_reducible refine need ?_ ?_; first | trivial | omega | exact ⟨by assumption, by omega⟩ | (simp only [List.length_append, List.length_cons, List.length_nil, List.length_map, List.length_take, List.length_drop, List.length_replicate, List.length_set]; omega)) | (with_reducible refine fact ?_ ?_; first | trivial | exact ⟨rfl, rfl⟩ | kernel_rfl) | with_reducible refine choT (by assumption) ?_ | with_reducible refine choF (by assumption) ?_ | with_reducible refine choF' (by assumption) ?_ | (with_reducible refine altT ?_ ?_; first | omega | (simp only [List.length_append, List.length_cons, List.length_nil, List.length_map, List.length_take, List.length_drop, List.length_replicate, List.length_set]; omega)) | with_reducible refine altF ?_ | with_reducible refine all fun _ => ?_ | with_reducible refine both ?_ ?_ | (with_reducible refine choT ?_ ?_; omega) | (with_reducible refine choF ?_ ?_; omega) | with_reducible refine cho (fun _ => ?_) (fun _ => ?_))
  all_goals
    rename_i h x
    first
    | (refine again (a ++ [UInt8.ofNat w.toNat ||| 128], w >>> UInt64.ofNat 7, some x) ?_ ⟨?_, ?_⟩ (Sub.refl _ _)
       · simp [Nat.shiftRight_eq_div_pow]; omega
       · rw [hw, put_w h]; simp
       · have := congrArg List.length (put_w h)
         simp only [List.length_cons, List.length_append, List.length_nil] at this ⊢
         omega)
    | (have e : l ++ put v.toNat = a ++ [UInt8.ofNat w.toNat] := by rw [hw, put_small (by omega)]
       rw [e]
       exact ⟨_, rfl, rfl⟩)
instance (priority := 1100) {a : AV} {l : List UInt8} {m : SM} {n : Nat} {τ : Store} [h : IsL a byt 1 l m] : EC Go.Proofs.Try.prog 102 [a, W64 (UInt64.ofNat n)] τ (n < 18446744073709551616 ∧ l.length ≤ 1000000000000) Value (fun y => .own y (l ++ put n).length) (fun y => .row y 5 1 ((l ++ put n).map byt) 0 :: τ) :=
  ⟨fun hl => by
    have := (codec_Put_ok l m (UInt64.ofNat n) hl.2 τ).subV (args := [a, W64 (UInt64.ofNat n)]) ⟨h.sub, SubVs.refl _⟩
    rw [u64_len hl.1] at this
    exact this⟩
def ref01_Put.mark : Mark := ⟨fun t => false, fun t => false, fun t => false, fun t => false, fun t => false⟩
def ref01_Put.ann : Ann := ⟨fun n => bif Nat.beq n 1 then [0, 1] else [], fun n => none, fun n => none⟩
/-- 'marlstone/marlstoneref01.Put' -/
def ref01_Put.sh (a0 a1 : AV) (σ : Store) (Q : AEnd → Store → Prop) : Prop :=
  aLoop (fun go vs σ =>
    At vs 0 fun s0 => At vs 1 fun s1 => Do (aBin Go.Proofs.Try.prog .geq 143 s1 (W64 128)) fun t6 =>
    aCond t6
      (Do (aBin Go.Proofs.Try.prog .rem 143 s1 (W64 128)) fun t9 =>
    Do (fun x => aConvN 143 5 t9 x Go.Proofs.Try.prog) fun t10 =>
    Do (aBin Go.Proofs.Try.prog .add 5 t10 (W8 128)) fun t11 =>
    Do (aSlLit (mkE [.val (.int .u8 0)]) 1 1 [(0, t11)]) fun t12 =>
    Do (aConvBS t12) fun t13 =>
    Do (aBin Go.Proofs.Try.prog .add 9 s0 t13) fun t14 =>
    Do (aBin Go.Proofs.Try.prog .quo 143 s1 (W64 128)) fun t16 =>
    go [t14, t16] σ)
      (Do (fun x => aConvN 143 5 s1 x Go.Proofs.Try.prog) fun t19 =>
  Do (aSlLit (mkE [.val (.int .u8 0)]) 1 1 [(0, t19)]) fun t20 =>
  Do (aConvBS t20) fun t21 =>
  Do (aBin Go.Proofs.Try.prog .add 9 s0 t21) fun t22 =>
  Q (.ret t22) σ))
    [a0, a1] σ
theorem ref01_Put.eq (a0 a1 : AV) (σ : Store) (Q : AEnd → Store → Prop) : vc (semOf Go.Proofs.Try.prog ref01_Put.mark) Go.Proofs.Try.f110.ntmps ref01_Put.ann (bodyOf Go.Proofs.Try.f110) (endK [.tmp 4] Q) (argFr [a0, a1]) σ = ref01_Put.sh a0 a1 σ Q := by kernel_rfl
theorem ref01_Put.go {a0 a1 : AV} {σ : Store} {Q : AEnd → Store → Prop} (h : ref01_Put.sh a0 a1 σ Q) : ACalls Go.Proofs.Try.prog 110 [a0, a1] σ Q :=
  acalls_of_eq [.tmp 4] Go.Proofs.Try.func110 (by kernel_rfl) (by kernel_rfl) (by kernel_rfl) (by kernel_rfl) (ref01_Put.eq a0 a1 σ Q) h
theorem ref01_Put_ok (l : List UInt8) (v : UInt64) (hl : l.length ≤ 1000000000000) : aPure Go.Proofs.Try.prog 110 [S l, W64 v] (S (l ++ put v.toNat)) := by
  refine ref01_Put.go ?_
  unfold ref01_Put.sh
  have hp := put_len64 (lt64 v)
  refine loopI (β := List UInt8 × UInt64) (fun x => l ++ put v.toNat = x.1 ++ put x.2.toNat ∧ x.1.length + (put x.2.toNat).length ≤ 1000000000010) (fun x => [S x.1, W64 x.2]) (fun _ => []) (fun x => x.2.toNat) (l, v) ⟨rfl, by dsimp only; omega⟩ (Sub.refl _ _) ?_
  rintro ⟨a, w⟩ ⟨hw, ha⟩
  dsimp only at hw ha ⊢
  have hpw := put_len64 (lt64 w)
  repeat' (first | with_reducible apply Stp.go | with_reducible refine imp fun _ => ?_ | (with_reducible refine hyp ?_ ?_; first | assumption | exact leftT_mem (by assumption)) | (with_reducible refine need ?_ ?_; first | trivial | omega | exact ⟨by assumption, by omega⟩ | (simp only [List.length_append, List.length_cons, List.length_nil, List.length_map, List.length_take, List.length_drop, List.length_replicate, List.length_set]; omega)) | (with_reducible refine fact ?_ ?_; first | trivial | exact ⟨rfl, rfl⟩ | kernel_rfl) | with_reducible refine choT (by assumption) ?_ | with_reducible refine choF (by assumption) ?_ | with_reducible refine choF' (by assumption) ?_ | (with_reducible refine altT ?_ ?_; first | omega | (simp only [List.length_append, List.length_cons, List.length_nil, List.length_map, List.length_take, List.length_drop, List.length_replicate, List.length_set]; omega)) | with_reducible refine altF ?_ | with_reducible refine all fun _ => ?_ | with_reducible refine both ?_ ?_ | (with_reducible refine choT ?_ ?_; omega) | (with_reducible refine choF ?_ ?_; omega) | with_reducible refine cho (fun _ => ?_) (fun _ => ?_))
  · rename_i h
    have h1 := put_more (v := w.toNat) (by omega)
    have h2 : (w / 128).toNat = w.toNat / 128 := by simp
    refine again (a ++ [UInt8.ofNat (w % 128).toNat + 128], w / 128) ?_ ⟨?_, ?_⟩ (Sub.refl _ _)
    · dsimp only; rw [h2]; omega
    · have e : UInt8.ofNat (w % 128).toNat + 128 = UInt8.ofNat (w.toNat % 128 + 128) := by
        rw [UInt64.toNat_mod]; apply UInt8.toNat.inj; simp
      rw [hw, h1, e, h2]; simp
    · have := congrArg List.length h1
      simp only [List.length_cons, List.length_append, List.length_nil, h2] at this ⊢
      omega
  · rw [hw, put_small (by omega)]
    exact ⟨rfl, rfl⟩
instance (priority := 1100) (l : List UInt8) (n : Nat) : PC Go.Proofs.Try.prog 110 [S l, W64 (UInt64.ofNat n)] (n < 18446744073709551616 ∧ l.length ≤ 1000000000000) (S (l ++ put n)) := ⟨fun h => by
  have := ref01_Put_ok l (UInt64.ofNat n) h.2
  rw [u64_len h.1] at this
  exact PC.of this⟩
def ref01_PutText.mark : Mark := ⟨fun t => Nat.beq t 9, fun t => false, fun t => false, fun t => false, fun t => false⟩
def ref01_PutText.ann : Ann := ⟨fun n => [], fun n => none, fun n => none⟩
/-- 'marlstone/marlstoneref01.PutText' -/
def ref01_PutText.sh (a0 a1 : AV) (σ : Store) (Q : AEnd → Store → Prop) : Prop :=
  Do (aBuiltin Go.Proofs.Try.prog .len #[9] [a1]) fun t7 =>
  Do (fun x => aConvN 3 143 t7 x Go.Proofs.Try.prog) fun t8 =>
  Do (aPureC Go.Proofs.Try.prog 110 [a0, t8]) fun t9 =>
  Do (aBin Go.Proofs.Try.prog .add 9 t9 a1) fun t11 =>
  Q (.ret t11) σ
theorem ref01_PutText.eq (a0 a1 : AV) (σ : Store) (Q : AEnd → Store → Prop) : vc (semOf Go.Proofs.Try.prog ref01_PutText.mark) Go.Proofs.Try.f109.ntmps ref01_PutText.ann (bodyOf Go.Proofs.Try.f109) (endK [.tmp 4] Q) (argFr [a0, a1]) σ = ref01_PutText.sh a0 a1 σ Q := by kernel_rfl
theorem ref01_PutText.go {a0 a1 : AV} {σ : Store} {Q : AEnd → Store → Prop} (h : ref01_PutText.sh a0 a1 σ Q) : ACalls Go.Proofs.Try.prog 109 [a0, a1] σ Q :=
  acalls_of_eq [.tmp 4] Go.Proofs.Try.func109 (by kernel_rfl) (by kernel_rfl) (by kernel_rfl) (by kernel_rfl) (ref01_PutText.eq a0 a1 σ Q) h
def codec_PutText.mark : Mark := ⟨fun t => false, fun t => false, fun t => false, fun t => false, fun t => false⟩
def codec_PutText.ann : Ann := ⟨fun n => [], fun n => none, fun n => none⟩
/-- 'marlstone/codec.PutText' -/
def codec_PutText.sh (a0 a1 : AV) (σ : Store) (Q : AEnd → Store → Prop) : Prop :=
  Do (aBuiltin Go.Proofs.Try.prog .len #[9] [a1]) fun t7 =>
  Do (fun x => aConvN 3 143 t7 x Go.Proofs.Try.prog) fun t8 =>
  aCall Go.Proofs.Try.prog 102 [a0, t8] σ (fun t9 σ =>
  aAppend 5 1 1 t9 a1 σ (subK fun t11 σ_1 =>
  Q (.ret t11) σ_1)) (fun e σ_2 => Q (.pan e) σ_2)
theorem codec_PutText.eq (a0 a1 : AV) (σ : Store) (Q : AEnd → Store → Prop) : vc (semOf Go.Proofs.Try.prog codec_PutText.mark) Go.Proofs.Try.f101.ntmps codec_PutText.ann (bodyOf Go.Proofs.Try.f101) (endK [.tmp 4] Q) (argFr [a0, a1]) σ = codec_PutText.sh a0 a1 σ Q := by kernel_rfl
theorem codec_PutText.go {a0 a1 : AV} {σ : Store} {Q : AEnd → Store → Prop} (h : codec_PutText.sh a0 a1 σ Q) : ACalls Go.Proofs.Try.prog 101 [a0, a1] σ Q :=
  acalls_of_eq [.tmp 4] Go.Proofs.Try.func101 (by kernel_rfl) (by kernel_rfl) (by kernel_rfl) (by kernel_rfl) (codec_PutText.eq a0 a1 σ Q) h
theorem ref01_PutText_ok (l s : List UInt8) (hl : l.length ≤ 1000000000000) (hs : s.length ≤ 1000000000000) : aPure Go.Proofs.Try.prog 109 [S l, S s] (S (l ++ (put s.length ++ s))) := by
  refine ref01_PutText.go ?_
  unfold ref01_PutText.sh
  have hp := put_len64 (v := s.length) (by omega)
  repeat' (first | with_reducible apply Stp.go | with_reducible refine imp fun _ => ?_ | (with_reducible refine hyp ?_ ?_; first | assumption | exact leftT_mem (by assumption)) | (with_reducible refine need ?_ ?_; first | trivial | omega | exact ⟨by assumption, by omega⟩ | (simp only [List.length_append, List.length_cons, List.length_nil, List.length_map, List.length_take, List.length_drop, List.length_replicate, List.length_set]; omega)) | (with_reducible refine fact ?_ ?_; first | trivial | exact ⟨rfl, rfl⟩ | kernel_rfl) | with_reducible refine choT (by assumption) ?_ | with_reducible refine choF (by assumption) ?_ | with_reducible refine choF' (by assumption) ?_ | (with_reducible refine altT ?_ ?_; first | omega | (simp only [List.length_append, List.length_cons, List.length_nil, List.length_map, List.length_take, List.length_drop, List.length_replicate, List.length_set]; omega)) | with_reducible refine altF ?_ | with_reducible refine all fun _ => ?_ | with_reducible refine both ?_ ?_ | (with_reducible refine choT ?_ ?_; omega) | (with_reducible refine choF ?_ ?_; omega) | with_reducible refine cho (fun _ => ?_) (fun _ => ?_))
  exact ⟨by simp, rfl⟩
theorem codec_PutText_ok (l s : List UInt8) (m : SM) (hl : l.length ≤ 1000000000000) (hs : s.length ≤ 1000000000000) (τ : Store) :
    ACalls Go.Proofs.Try.prog 101 [.lst 1 (l.map byt) m, S s] τ fun x σ' => ∃ y, x = .ret (.own y (l ++ (put s.length ++ s)).length) ∧ σ' = .row y 5 1 ((l ++ (put s.length ++ s)).map byt) 0 :: τ := by
  refine codec_PutText.go ?_
  unfold codec_PutText.sh
  have hp := put_len64 (v := s.length) (by omega)
  repeat' (first | with_reducible apply Stp.go | with_reducible refine imp fun _ => ?_ | (with_reducible refine hyp ?_ ?_; first | assumption | exact leftT_mem (by assumption)) | (with_reducible refine need ?_ ?_; first | trivial | omega | exact ⟨by assumption, by omega⟩ | (simp only [List.length_append, List.length_cons, List.length_nil, List.length_map, List.length_take, List.length_drop, List.length_replicate, List.length_set]; omega)) | (with_reducible refine fact ?_ ?_; first | trivial | exact ⟨rfl, rfl⟩ | kernel_rfl) | with_reducible refine choT (by assumption) ?_ | with_reducible refine choF (by assumption) ?_ | with_reducible refine choF' (by assumption) ?_ | (with_reducible refine altT ?_ ?_; first | omega | (simp only [List.length_append, List.length_cons, List.length_nil, List.length_map, List.length_take, List.length_drop, List.length_replicate, List.length_set]; omega)) | with_reducible refine altF ?_ | with_reducible refine all fun _ => ?_ | with_reducible refine both ?_ ?_ | (with_reducible refine choT ?_ ?_; omega) | (with_reducible refine choF ?_ ?_; omega) | with_reducible refine cho (fun _ => ?_) (fun _ => ?_))
  rw [List.append_assoc]
  exact ⟨_, rfl, rfl⟩
instance {a : AV} {l s : List UInt8} {m : SM} {τ : Store} [h : IsL a byt 1 l m] : EC Go.Proofs.Try.prog 101 [a, S s] τ (l.length ≤ 1000000000000 ∧ s.length ≤ 1000000000000) Value (fun y => .own y (l ++ (put s.length ++ s)).length) (fun y => .row y 5 1 ((l ++ (put s.length ++ s)).map byt) 0 :: τ) :=
  ⟨fun hl => (codec_PutText_ok l s m hl.1 hl.2 τ).subV ⟨h.sub, SubVs.refl _⟩⟩
end Go.Ab

/- What the functions of layers 3 and 4 compute, more. No program in sight. -/
set_option linter.unusedVariables false
set_option linter.unusedSimpArgs false
namespace Go.Ab
/-- An entry's bytes, if it is right. -/
def enR (e : En) : List UInt8 := [if e.del = true then 1 else 0] ++ put e.seq.toNat ++ (put e.key.length ++ e.key) ++ (if e.del = true then [] else put e.val.length ++ e.val)
def enB (e : En) : List UInt8 := if right e = true then enR e else []
/-- An entry of at most so many bytes. -/
def cutE (a b : Nat) (e : En) : En := ⟨e.key.take a, e.val.take b, e.del, e.seq⟩
theorem take_minN {α : Type} (l : List α) (k : Nat) : l.take (min l.length k) = l.take k := by
  rcases Nat.le_total l.length k with h | h
  · rw [Nat.min_eq_left h, List.take_of_length_le (Nat.le_refl _), List.take_of_length_le h]
  · rw [Nat.min_eq_right h]
end Go.Ab

/- The order of keys; what a fold is. No program in sight. -/
set_option linter.unusedVariables false
set_option linter.unusedSimpArgs false
namespace Go.Ab
theorem lt_asymm : ∀ {a b : List UInt8}, lt a b = true → lt b a = false
  | [], [], h => by simp [lt, Op.bytesLess] at h
  | [], b :: bs, h => by simp [lt, Op.bytesLess]
  | a :: aa, [], h => by simp [lt, Op.bytesLess] at h
  | a :: aa, b :: bs, h => by
    simp only [lt, Op.bytesLess, Bool.or_eq_true, decide_eq_true_eq, Bool.and_eq_true, beq_iff_eq] at h
    simp only [lt, Op.bytesLess, Bool.or_eq_false_iff, decide_eq_false_iff_not, Bool.and_eq_false_iff]
    rcases h with h | ⟨rfl, h⟩
    · refine ⟨by simp only [UInt8.lt_iff_toNat_lt] at h ⊢; omega, .inl ?_⟩
      have : ¬ b = a := fun e => by subst e; simp only [UInt8.lt_iff_toNat_lt] at h; omega
      simpa using this
    · exact ⟨by simp only [UInt8.lt_iff_toNat_lt]; omega, .inr (lt_asymm h)⟩
theorem lt_trans' : ∀ {a b c : List UInt8}, lt a b = true → lt b c = true → lt a c = true
  | _, [], [], h, k => by simp [lt, Op.bytesLess] at k
  | _, b :: bs, [], h, k => by simp [lt, Op.bytesLess] at k
  | [], _, c :: cs, h, k => by simp [lt, Op.bytesLess]
  | a :: aa, [], c :: cs, h, k => by simp [lt, Op.bytesLess] at h
  | a :: aa, b :: bs, c :: cs, h, k => by
    simp only [lt, Op.bytesLess, Bool.or_eq_true, decide_eq_true_eq, Bool.and_eq_true, beq_iff_eq, UInt8.lt_iff_toNat_lt] at h k ⊢
    rcases h with h | ⟨rfl, h⟩ <;> rcases k with k | ⟨rfl, k⟩
    · exact .inl (by omega)
    · exact .inl h
    · exact .inl k
    · exact .inr ⟨rfl, lt_trans' h k⟩
theorem lt_tri : ∀ {a b : List UInt8}, lt a b = false → lt b a = false → a = b
  | [], [], h, k => rfl
  | [], b :: bs, h, k => by simp [lt, Op.bytesLess] at h
  | a :: aa, [], h, k => by simp [lt, Op.bytesLess] at k
  | a :: aa, b :: bs, h, k => by
    simp only [lt, Op.bytesLess, Bool.or_eq_false_iff, decide_eq_false_iff_not, Bool.and_eq_false_iff, UInt8.lt_iff_toNat_lt] at h k
    have e : a = b := UInt8.toNat_inj.1 (by omega)
    subst e
    have h2 : lt aa bs = false := by rcases h.2 with h | h; simp at h; exact h
    have k2 : lt bs aa = false := by rcases k.2 with h | h; simp at h; exact h
    rw [lt_tri h2 k2]
theorem lt_ne {a b : List UInt8} (h : lt a b = true) : a ≠ b := fun e => by subst e; rw [lt_irrefl] at h; cases h
theorem lt_of_ge {a b c : List UInt8} (h : lt b a = false) (k : lt b c = true) : lt a c = true := by
  cases hc : lt a b with
  | true => exact lt_trans' hc k
  | false => rw [lt_tri hc h]; exact k
abbrev Rises (l : List En) : Prop := l.Pairwise fun a b => lt a.key b.key = true
theorem sorted_iff : ∀ l : List En, sorted l = true ↔ Rises l
  | [] => by simp [sorted]
  | [a] => by simp [sorted]
  | a :: b :: l => by
    have ih := sorted_iff (b :: l)
    simp only [sorted, Bool.and_eq_true, ih, Rises]
    constructor
    · rintro ⟨h1, h2⟩
      refine List.pairwise_cons.2 ⟨fun c hc => ?_, h2⟩
      rcases List.mem_cons.1 hc with rfl | hc
      · exact h1
      · exact lt_trans' h1 ((List.pairwise_cons.1 h2).1 c hc)
    · intro h
      exact ⟨(List.pairwise_cons.1 h).1 b List.mem_cons_self, (List.pairwise_cons.1 h).2⟩

/-- An entry put into a rising list. -/
def putE (e : En) : List En → List En
  | [] => [e]
  | x :: l => if lt x.key e.key = true then x :: putE e l else if x.key = e.key then (if x.seq ≤ e.seq then e :: l else x :: l) else e :: x :: l
def foldE (l : List En) : List En := l.foldl (fun F e => putE e F) []
/-- What a list has of a key. -/
def getE (k : List UInt8) (F : List En) : Option En := F.find? fun x => decide (x.key = k)
theorem foldE_snoc (l : List En) (e : En) : foldE (l ++ [e]) = putE e (foldE l) := by simp [foldE, List.foldl_append]
theorem putE_key {e : En} : ∀ {F : List En} {x : En}, x ∈ putE e F → x = e ∨ x ∈ F
  | [], x, h => by simp [putE] at h; exact .inl h
  | y :: l, x, h => by
    unfold putE at h
    split at h
    · rcases List.mem_cons.1 h with rfl | h
      · exact .inr List.mem_cons_self
      · rcases putE_key h with h | h
        · exact .inl h
        · exact .inr (List.mem_cons_of_mem _ h)
    · split at h
      · split at h
        · rcases List.mem_cons.1 h with h | h
          · exact .inl h
          · exact .inr (List.mem_cons_of_mem _ h)
        · exact .inr h
      · rcases List.mem_cons.1 h with h | h
        · exact .inl h
        · exact .inr h
theorem putE_rises {e : En} : ∀ {F : List En}, Rises F → Rises (putE e F)
  | [], _ => by simp [putE]
  | y :: l, h => by
    obtain ⟨h1, h2⟩ := List.pairwise_cons.1 h
    unfold putE
    split
    · rename_i hlt
      refine List.pairwise_cons.2 ⟨fun x hx => ?_, putE_rises h2⟩
      rcases putE_key hx with rfl | hx
      · exact hlt
      · exact h1 x hx
    · rename_i hlt
      split
      · rename_i he
        split
        · exact List.pairwise_cons.2 ⟨fun x hx => by rw [← he]; exact h1 x hx, h2⟩
        · exact h
      · rename_i hne
        have hle : lt e.key y.key = true := by
          cases hc : lt e.key y.key with
          | true => rfl
          | false => exact absurd (lt_tri (by simpa using hlt) hc) hne
        refine List.pairwise_cons.2 ⟨fun x hx => ?_, h⟩
        rcases List.mem_cons.1 hx with rfl | hx
        · exact hle
        · exact lt_trans' hle (h1 x hx)
theorem foldE_rises (l : List En) : Rises (foldE l) := by
  unfold foldE
  suffices h : ∀ F, Rises F → Rises (l.foldl (fun F e => putE e F) F) from h [] (by simp)
  induction l with
  | nil => exact fun F h => h
  | cons e l ih => exact fun F h => ih _ (putE_rises h)
/-- The later one of two, by their numbers. -/
def newer (o : Option En) (e : En) : En := match o with
  | none => e
  | some x => if x.seq ≤ e.seq then e else x
theorem getE_lt {k : List UInt8} : ∀ {F : List En}, (∀ x ∈ F, lt k x.key = true) → getE k F = none
  | [], _ => rfl
  | y :: l, h => by
    have : ¬ y.key = k := fun e => lt_ne (h y List.mem_cons_self) e.symm
    unfold getE
    rw [List.find?_cons_of_neg (by simpa using this)]
    exact getE_lt fun x hx => h x (List.mem_cons_of_mem _ hx)
theorem getE_put {e : En} {k : List UInt8} : ∀ {F : List En}, Rises F → getE k (putE e F) = if e.key = k then some (newer (getE k F) e) else getE k F
  | [], _ => by
    unfold putE getE
    by_cases h : e.key = k <;> simp [h, newer]
  | y :: l, h => by
    obtain ⟨h1, h2⟩ := List.pairwise_cons.1 h
    have ih := getE_put (e := e) (k := k) h2
    unfold putE
    split
    · rename_i hlt
      by_cases hy : y.key = k
      · have hek : ¬ e.key = k := fun he => lt_ne hlt (by rw [hy, he])
        simp [getE, hy, hek]
      · have e1 : ∀ L, getE k (y :: L) = getE k L := fun L => by simp [getE, hy]
        rw [e1, e1, ih]
    · rename_i hlt
      split
      · rename_i he
        split
        · rename_i hs
          by_cases hk : e.key = k
          · have hy : y.key = k := by rw [he, hk]
            simp [getE, hk, hy, newer, hs]
          · have hy : ¬ y.key = k := by rw [he]; exact hk
            simp [getE, hk, hy]
        · rename_i hs
          by_cases hk : e.key = k
          · have hy : y.key = k := by rw [he, hk]
            simp [getE, hk, hy, newer, hs]
          · simp [hk]
      · rename_i hne
        have hle : lt e.key y.key = true := by
          cases hc : lt e.key y.key with
          | true => rfl
          | false => exact absurd (lt_tri (by simpa using hlt) hc) hne
        by_cases hk : e.key = k
        · have hn : getE k (y :: l) = none := getE_lt fun x hx => by
            rw [← hk]
            rcases List.mem_cons.1 hx with rfl | hx
            · exact hle
            · exact lt_trans' hle (h1 x hx)
          rw [hn]
          simp [getE, hk, newer]
        · simp [getE, hk]
theorem getE_mem {k : List UInt8} {F : List En} {x : En} (h : getE k F = some x) : x ∈ F ∧ x.key = k := ⟨List.mem_of_find?_eq_some h, by simpa using List.find?_some h⟩
theorem getE_of_mem : ∀ {F : List En} {x : En}, Rises F → x ∈ F → getE x.key F = some x
  | [], x, _, h => by cases h
  | y :: l, x, hr, h => by
    obtain ⟨h1, h2⟩ := List.pairwise_cons.1 hr
    rcases List.mem_cons.1 h with rfl | h
    · simp [getE]
    · have : ¬ y.key = x.key := lt_ne (h1 x h)
      have ih := getE_of_mem h2 h
      simp only [getE] at ih ⊢
      rw [List.find?_cons_of_neg (by simpa using this)]
      exact ih
/-- Two rising lists that have the same of each key are one. -/
theorem rises_ext : ∀ {F G : List En}, Rises F → Rises G → (∀ x, x ∈ F ↔ x ∈ G) → F = G
  | [], [], _, _, _ => rfl
  | [], g :: G, _, _, h => by have := (h g).2 List.mem_cons_self; cases this
  | f :: F, [], _, _, h => by have := (h f).1 List.mem_cons_self; cases this
  | f :: F, g :: G, hF, hG, h => by
    obtain ⟨f1, f2⟩ := List.pairwise_cons.1 hF
    obtain ⟨g1, g2⟩ := List.pairwise_cons.1 hG
    have e : f = g := by
      rcases List.mem_cons.1 ((h f).1 List.mem_cons_self) with e | hf
      · exact e
      · rcases List.mem_cons.1 ((h g).2 List.mem_cons_self) with e | hg
        · exact e.symm
        · have := lt_asymm (g1 f hf)
          rw [f1 g hg] at this
          cases this
    subst e
    rw [rises_ext f2 g2 fun x => ?_]
    have := h x
    simp only [List.mem_cons] at this
    constructor
    · intro hx
      rcases this.1 (.inr hx) with rfl | hx'
      · have := f1 x hx; rw [lt_irrefl] at this; cases this
      · exact hx'
    · intro hx
      rcases this.2 (.inr hx) with rfl | hx'
      · have := g1 x hx; rw [lt_irrefl] at this; cases this
      · exact hx'
/-- A key's place; is it there. -/
def placeN (F : List En) (k : List UInt8) : Nat := F.countP fun x => lt x.key k
def hasK (F : List En) (k : List UInt8) : Bool := F.any fun x => decide (x.key = k)
theorem placeN_le (F : List En) (k : List UInt8) : placeN F k ≤ F.length := List.countP_le_length
/-- In a rising list the entries ahead of a key's place are those below it. -/
theorem place_cons {y : En} {l : List En} {k : List UInt8} (h : lt y.key k = true) : placeN (y :: l) k = placeN l k + 1 := by simp [placeN, List.countP_cons, h]
theorem place_zero {y : En} {l : List En} {k : List UInt8} (hr : Rises (y :: l)) (h : lt y.key k = false) : placeN (y :: l) k = 0 := by
  unfold placeN
  rw [List.countP_eq_zero]
  intro x hx
  rcases List.mem_cons.1 hx with rfl | hx
  · simp [h]
  · intro hc
    have := lt_trans' ((List.pairwise_cons.1 hr).1 x hx) hc
    rw [this] at h; cases h
theorem place_lt {F : List En} {k : List UInt8} (hr : Rises F) (h : hasK F k = true) : placeN F k < F.length ∧ (F.getD (placeN F k) default).key = k := by
  induction F with
  | nil => simp [hasK] at h
  | cons y l ih =>
    obtain ⟨h1, h2⟩ := List.pairwise_cons.1 hr
    cases hlt : lt y.key k with
    | true =>
      have hne : ¬ y.key = k := lt_ne hlt
      have := ih h2 (by simpa [hasK, hne] using h)
      rw [place_cons hlt]
      simpa using this
    | false =>
      rw [place_zero hr hlt]
      refine ⟨by simp, ?_⟩
      simp only [List.getD_cons_zero]
      cases hc : lt k y.key with
      | false => exact lt_tri hlt hc
      | true =>
        exfalso
        unfold hasK at h
        rw [List.any_eq_true] at h
        obtain ⟨x, hx, hxe⟩ := h
        have hxe : x.key = k := by simpa using hxe
        rcases List.mem_cons.1 hx with rfl | hx
        · rw [hxe, lt_irrefl] at hc; cases hc
        · have := lt_trans' hc (h1 x hx)
          rw [hxe, lt_irrefl] at this; cases this
theorem putE_length (e : En) : ∀ F : List En, (putE e F).length ≤ F.length + 1
  | [] => by simp [putE]
  | y :: l => by
    have := putE_length e l
    unfold putE
    repeat' split
    all_goals simp only [List.length_cons]
    all_goals omega
theorem foldE_length (l : List En) : (foldE l).length ≤ l.length := by
  unfold foldE
  suffices h : ∀ F : List En, (l.foldl (fun F e => putE e F) F).length ≤ F.length + l.length by simpa using h []
  induction l with
  | nil => simp
  | cons e l ih =>
    intro F
    have h1 := ih (putE e F)
    have h2 := putE_length e F
    simp only [List.foldl_cons, List.length_cons] at h1 ⊢
    omega
end Go.Ab

/- Tables of entries by their keys, and what a walk over one gathers. No program in sight. -/
set_option linter.unusedVariables false
set_option linter.unusedSimpArgs false
namespace Go.Ab
section tables
variable {κ α : Type} [DecidableEq κ]
theorem findT_set (k k' : κ) (v : α) (c : Nat) : ∀ L : List (Nat × κ × α), findT k' (setT k v c L) = if k' = k then some v else findT k' L
  | [] => by
    by_cases h : k' = k <;> simp [setT, findT, h]
  | x :: L => by
    have ih := findT_set k k' v c L
    unfold findT at ih
    by_cases hx : k = x.2.1
    · subst hx
      by_cases h : k' = x.2.1 <;> simp [setT, findT, h]
    · simp only [setT, decide_eq_false hx, cond_false]
      by_cases h : k' = x.2.1
      · have : ¬ k' = k := fun e => hx (e.symm.trans h)
        simp [findT, h, Ne.symm hx]
      · simp only [findT, List.find?_cons, decide_eq_false h]
        exact ih
theorem births_set (k : κ) (v : α) (c : Nat) : ∀ L : List (Nat × κ × α), (setT k v c L).map (·.1) = if hasT k L = true then L.map (·.1) else L.map (·.1) ++ [c]
  | [] => by simp [setT, hasT]
  | x :: L => by
    have ih := births_set k v c L
    by_cases hx : k = x.2.1
    · simp [setT, hasT, hx]
    · simp only [setT, decide_eq_false hx, cond_false, List.map_cons, ih, hasT, List.any_cons, Bool.false_or]
      by_cases h : (L.any fun x => decide (k = x.2.1)) = true <;> simp [h]
theorem keys_set (k : κ) (v : α) (c : Nat) : ∀ L : List (Nat × κ × α), (setT k v c L).map (·.2.1) = if hasT k L = true then L.map (·.2.1) else L.map (·.2.1) ++ [k]
  | [] => by simp [setT, hasT]
  | x :: L => by
    have ih := keys_set k v c L
    by_cases hx : k = x.2.1
    · simp [setT, hasT, hx]
    · simp only [setT, decide_eq_false hx, cond_false, List.map_cons, ih, hasT, List.any_cons, Bool.false_or]
      by_cases h : (L.any fun x => decide (k = x.2.1)) = true <;> simp [h]
theorem mem_set {k : κ} {v : α} {c : Nat} : ∀ {L : List (Nat × κ × α)} {x : Nat × κ × α}, x ∈ setT k v c L → x ∈ L ∨ (x.2.1 = k ∧ x.2.2 = v)
  | [], x, h => by simp [setT] at h; subst h; exact .inr ⟨rfl, rfl⟩
  | y :: L, x, h => by
    unfold setT at h
    cases hd : decide (k = y.2.1) with
    | true =>
      rw [hd, cond_true] at h
      rcases List.mem_cons.1 h with rfl | h
      · exact .inr ⟨(of_decide_eq_true hd).symm, rfl⟩
      · exact .inl (List.mem_cons_of_mem _ h)
    | false =>
      rw [hd, cond_false] at h
      rcases List.mem_cons.1 h with rfl | h
      · exact .inl List.mem_cons_self
      · rcases mem_set h with h | h
        · exact .inl (List.mem_cons_of_mem _ h)
        · exact .inr h
theorem hasT_iff (k : κ) (L : List (Nat × κ × α)) : hasT k L = true ↔ k ∈ L.map (·.2.1) := by
  unfold hasT
  rw [List.any_eq_true]
  constructor
  · rintro ⟨x, hx, h⟩
    exact List.mem_map.2 ⟨x, hx, (of_decide_eq_true h).symm⟩
  · intro h
    obtain ⟨x, hx, e⟩ := List.mem_map.1 h
    exact ⟨x, hx, decide_eq_true e.symm⟩
theorem findT_mem {L : List (Nat × κ × α)} {k : κ} {v : α} (h : findT k L = some v) : ∃ x ∈ L, x.2.1 = k ∧ x.2.2 = v := by
  unfold findT at h
  obtain ⟨x, h1, h2⟩ := Option.map_eq_some_iff.1 h
  have h3 := List.find?_some h1
  exact ⟨x, List.mem_of_find?_eq_some h1, (of_decide_eq_true h3).symm, h2⟩
theorem findT_of_mem : ∀ {L : List (Nat × κ × α)} {x : Nat × κ × α}, (L.map (·.2.1)).Nodup → x ∈ L → findT x.2.1 L = some x.2.2
  | [], x, _, h => by cases h
  | y :: L, x, hn, h => by
    obtain ⟨h1, h2⟩ := List.nodup_cons.1 hn
    rcases List.mem_cons.1 h with rfl | h
    · simp [findT]
    · have hne : ¬ x.2.1 = y.2.1 := fun e => h1 (List.mem_map.2 ⟨x, h, e⟩)
      have ih := findT_of_mem h2 h
      simp only [findT, List.find?_cons, decide_eq_false hne] at ih ⊢
      exact ih
end tables
/-- Of a table whose births differ, one more is taken. -/
theorem left_take {κ α : Type} : ∀ {L : List (Nat × κ × α)} {seen : List Nat} {x : Nat × κ × α}, (L.map (·.1)).Nodup → x ∈ leftT L seen → (leftT L seen).Perm (x :: leftT L (seen ++ [x.1]))
  | [], seen, x, _, h => by simp [leftT] at h
  | y :: L, seen, x, hn, h => by
    obtain ⟨h1, h2⟩ := List.nodup_cons.1 hn
    unfold leftT at h ⊢
    by_cases hy : seen.contains y.1 = true
    · have hy2 : (seen ++ [x.1]).contains y.1 = true := by rw [List.contains_iff_mem] at hy ⊢; exact List.mem_append_left _ hy
      rw [List.filter_cons_of_neg (by simpa using hy)] at h ⊢
      rw [List.filter_cons_of_neg (by rw [hy2]; decide)]
      exact left_take h2 h
    · rw [List.filter_cons_of_pos (by simpa using hy)] at h ⊢
      rcases List.mem_cons.1 h with rfl | hx
      · rw [List.filter_cons_of_neg (by simp)]
        refine List.Perm.cons _ (List.Perm.of_eq ?_)
        apply List.filter_congr
        intro z hz
        have hne : ¬ z.1 = x.1 := fun e => h1 (List.mem_map.2 ⟨z, hz, e⟩)
        simp [hne]
      · have hne : ¬ y.1 = x.1 := fun e => h1 (List.mem_map.2 ⟨x, (List.mem_filter.1 hx).1, e.symm⟩)
        have hy2 : ¬ (seen ++ [x.1]).contains y.1 = true := by
          rw [List.contains_iff_mem] at hy ⊢
          intro h3
          rcases List.mem_append.1 h3 with h3 | h3
          · exact hy h3
          · exact hne (List.mem_singleton.1 h3)
        rw [List.filter_cons_of_pos (by simpa using hy2)]
        exact ((left_take h2 hx).cons y).trans (List.Perm.swap _ _ _)
theorem left_nil {κ α : Type} (L : List (Nat × κ × α)) : leftT L [] = L := by simp [leftT]

/-- A table that holds a rising list. -/
structure Tbl (L : List (Nat × List UInt8 × En)) (c : Nat) (F : List En) : Prop where
  nb : (L.map (·.1)).Nodup
  lt : ∀ x ∈ L, x.1 < c
  nk : (L.map (·.2.1)).Nodup
  key : ∀ x ∈ L, x.2.2.key = x.2.1
  find : ∀ k, findT k L = getE k F
theorem Tbl.nil : Tbl [] 0 [] := ⟨List.nodup_nil, by simp, List.nodup_nil, by simp, fun _ => rfl⟩
theorem Tbl.keep {L : List (Nat × List UInt8 × En)} {c : Nat} {F : List En} (h : Tbl L c F) (hF : Rises F) {e x : En} (hx : findT e.key L = some x) (hs : ¬ x.seq ≤ e.seq) : Tbl L c (putE e F) := by
  refine ⟨h.nb, h.lt, h.nk, h.key, fun k => ?_⟩
  rw [getE_put hF, h.find]
  split
  · rename_i hk
    subst hk
    rw [← h.find, hx]
    simp [newer, hs]
  · rfl
theorem Tbl.set {L : List (Nat × List UInt8 × En)} {c : Nat} {F : List En} (h : Tbl L c F) (hF : Rises F) {e : En} (hs : ∀ x, findT e.key L = some x → x.seq ≤ e.seq) : Tbl (setT e.key e c L) (bif hasT e.key L then c else c + 1) (putE e F) := by
  have hb := births_set e.key e c L
  have hk := keys_set e.key e c L
  refine ⟨?_, fun x hx => ?_, ?_, fun x hx => ?_, fun k => ?_⟩
  · rw [hb]
    split
    · exact h.nb
    · rw [List.nodup_append]
      refine ⟨h.nb, by simp, fun a ha b hb2 e => ?_⟩
      rw [List.mem_singleton] at hb2
      obtain ⟨x, hx, rfl⟩ := List.mem_map.1 ha
      have := h.lt x hx
      omega
  · have hm : x.1 ∈ (setT e.key e c L).map (·.1) := List.mem_map.2 ⟨x, hx, rfl⟩
    rw [hb] at hm
    cases hh : hasT e.key L with
    | true =>
      rw [if_pos hh] at hm
      obtain ⟨y, hy, e1⟩ := List.mem_map.1 hm
      rw [← e1]
      exact h.lt y hy
    | false =>
      rw [if_neg (by rw [hh]; decide)] at hm
      rcases List.mem_append.1 hm with hm | hm
      · obtain ⟨y, hy, e1⟩ := List.mem_map.1 hm
        have := h.lt y hy
        show x.1 < c + 1
        omega
      · rw [List.mem_singleton] at hm
        show x.1 < c + 1
        omega
  · rw [hk]
    split
    · exact h.nk
    · rename_i hh
      rw [List.nodup_append]
      refine ⟨h.nk, by simp, fun a ha b hb2 e1 => ?_⟩
      rw [List.mem_singleton] at hb2
      subst hb2; subst e1
      exact hh ((hasT_iff _ _).2 ha)
  · rcases mem_set hx with hx | ⟨h1, h2⟩
    · exact h.key x hx
    · rw [h1, h2]
  · rw [findT_set, getE_put hF]
    by_cases hke : k = e.key
    · subst hke
      rw [if_pos rfl, if_pos rfl, ← h.find]
      cases hf : findT e.key L with
      | none => rfl
      | some x => simp [newer, hs x hf]
    · rw [if_neg hke, if_neg (fun h => hke h.symm), h.find]
/-- What was gathered off the table, sorted, is the list. -/
theorem Tbl.sorted {L : List (Nat × List UInt8 × En)} {c : Nat} {F o : List En} (h : Tbl L c F) (hF : Rises F) (hp : o.Perm (L.map (·.2.2))) (hs : o.Pairwise fun a b => Ab.lt b.key a.key = false) : o = F := by
  have hk : (o.map (·.key)).Nodup := by
    refine ((hp.map (·.key)).nodup_iff).2 ?_
    rw [List.map_map]
    have : L.map ((·.key) ∘ (·.2.2)) = L.map (·.2.1) := List.map_congr_left fun x hx => h.key x hx
    rw [this]
    exact h.nk
  have hr : Rises o := by
    clear hp
    induction o with
    | nil => exact List.Pairwise.nil
    | cons a o ih =>
      obtain ⟨s1, s2⟩ := List.pairwise_cons.1 hs
      obtain ⟨k1, k2⟩ := List.nodup_cons.1 hk
      refine List.pairwise_cons.2 ⟨fun b hb => ?_, ih s2 k2⟩
      cases hab : Ab.lt a.key b.key with
      | true => rfl
      | false =>
        have e := lt_tri hab (s1 b hb)
        exact absurd (List.mem_map.2 ⟨b, hb, e.symm⟩) k1
  refine rises_ext hr hF fun x => ?_
  rw [hp.mem_iff]
  constructor
  · intro hx
    obtain ⟨y, hy, rfl⟩ := List.mem_map.1 hx
    have := findT_of_mem h.nk hy
    rw [h.find] at this
    exact (getE_mem this).1
  · intro hx
    have := getE_of_mem hF hx
    rw [← h.find] at this
    obtain ⟨y, hy, _, rfl⟩ := findT_mem this
    exact List.mem_map.2 ⟨y, hy, rfl⟩
theorem setT_length {κ α : Type} [DecidableEq κ] (k : κ) (v : α) (c : Nat) : ∀ L : List (Nat × κ × α), (setT k v c L).length ≤ L.length + 1
  | [] => by simp [setT]
  | x :: L => by
    have ih := setT_length k v c L
    unfold setT
    cases decide (k = x.2.1) with
    | true => simp
    | false => simp only [cond_false, List.length_cons]; omega
end Go.Ab

/- Numbers and texts read from bytes. No program in sight. -/
set_option linter.unusedVariables false
set_option linter.unusedSimpArgs false
namespace Go.Ab
instance (priority := 1100) (b : UInt8) : Cells (byt b) [W8 b] := ⟨rfl⟩
/-- A number of bytes, from the i-th one on; what was read so far. -/
def getA : List UInt8 → Nat → Nat → Option (Nat × Nat)
  | [], _, _ => none
  | c :: s, i, v => if 10 ≤ i ∨ (i = 9 ∧ 1 < c.toNat) ∨ (0 < i ∧ c.toNat = 0) then none
    else if c.toNat < 128 then some (v + c.toNat % 128 * 128 ^ i, i + 1) else getA s (i + 1) (v + c.toNat % 128 * 128 ^ i)
def getG (s : List UInt8) : Option (Nat × Nat) := getA s 0 0
def getV (s : List UInt8) : Nat := ((getG s).map (·.1)).getD 0
def getN (s : List UInt8) : Nat := ((getG s).map (·.2)).getD 0
def getO (s : List UInt8) : Bool := (getG s).isSome
theorem drop_cons_d {α : Type} [Inhabited α] {l : List α} {i : Nat} (h : i < l.length) : l.drop i = l.getD i default :: l.drop (i + 1) := by
  rw [List.drop_eq_getElem_cons h, List.getD_eq_getElem?_getD, List.getElem?_eq_getElem h]
  rfl
theorem getA_ge (s : List UInt8) {i : Nat} (v : Nat) (h : 10 ≤ i) : getA s i v = none := by
  cases s with
  | nil => rfl
  | cons c s => unfold getA; rw [if_pos (.inl h)]
theorem getA_bound : ∀ {s : List UInt8} {i v : Nat} {r : Nat × Nat}, v < 128 ^ i → getA s i v = some r → r.1 < 18446744073709551616 ∧ r.2 ≤ 10 ∧ i < r.2 ∧ r.2 ≤ i + s.length
  | [], i, v, r, _, h => by cases h
  | c :: s, i, v, r, hv, h => by
    unfold getA at h
    split at h
    · cases h
    · rename_i hn
      have hi : i ≤ 9 := by omega
      have hb : v + c.toNat % 128 * 128 ^ i < 128 ^ (i + 1) := by
        have h1 : c.toNat % 128 * 128 ^ i ≤ 127 * 128 ^ i := Nat.mul_le_mul_right _ (by omega)
        rw [Nat.pow_succ]
        omega
      split at h
      · rename_i hc
        cases h
        refine ⟨?_, by dsimp only; omega, by dsimp only; omega, by dsimp only; simp only [List.length_cons]; omega⟩
        dsimp only
        rcases Nat.lt_or_ge i 9 with h9 | h9
        · have : (128 : Nat) ^ (i + 1) ≤ 128 ^ 9 := Nat.pow_le_pow_right (by decide) (by omega)
          omega
        · have e9 : i = 9 := by omega
          subst e9
          have : c.toNat % 128 ≤ 1 := by omega
          have h2 : c.toNat % 128 * 128 ^ 9 ≤ 1 * 128 ^ 9 := Nat.mul_le_mul_right _ this
          omega
      · have ih := getA_bound hb h
        simp only [List.length_cons]
        omega
theorem get_bound {s : List UInt8} : getV s < 18446744073709551616 ∧ getN s ≤ 10 ∧ getN s ≤ s.length ∧ (getO s = true → 0 < getN s) := by
  unfold getV getN getO
  cases h : getG s with
  | none => simp
  | some r =>
    have := getA_bound (s := s) (i := 0) (v := 0) (by decide) h
    simp
    omega
/-- One more byte's bits, laid beside those that are there. -/
theorem or_bits {w : UInt64} {c i : Nat} (hi : i ≤ 9) (hw : w.toNat < 128 ^ i) (hc : c < 128) (h9 : i = 9 → c ≤ 1) : (w ||| (UInt64.ofNat c <<< UInt64.ofNat (7 * i))).toNat = w.toNat + c * 128 ^ i := by
  have e1 : (128 : Nat) ^ i = 2 ^ (7 * i) := by rw [Nat.pow_mul]
  rw [e1] at hw ⊢
  have hc2 : c * 2 ^ (7 * i) < 18446744073709551616 := by
    rcases Nat.lt_or_ge i 9 with h | h
    · have h1 : c * 2 ^ (7 * i) ≤ 127 * 2 ^ (7 * i) := Nat.mul_le_mul_right _ (by omega)
      have h2 : (2 : Nat) ^ (7 * i) ≤ 2 ^ 56 := Nat.pow_le_pow_right (by decide) (by omega)
      omega
    · have e9 : i = 9 := by omega
      subst e9
      have h1 : c * 2 ^ (7 * 9) ≤ 1 * 2 ^ (7 * 9) := Nat.mul_le_mul_right _ (h9 rfl)
      omega
  have e2 : (UInt64.ofNat (7 * i)).toNat = 7 * i := by simp [UInt64.toNat_ofNat']; omega
  have e3 : (UInt64.ofNat c).toNat = c := by simp [UInt64.toNat_ofNat']; omega
  rw [UInt64.toNat_or, UInt64.toNat_shiftLeft, e2, e3, Nat.mod_eq_of_lt (show 7 * i < 64 by omega), Nat.shiftLeft_eq, Nat.mod_eq_of_lt (by rw [show (2 : Nat) ^ 64 = 18446744073709551616 from rfl]; exact hc2), Nat.or_comm, ← Nat.shiftLeft_eq, ← Nat.shiftLeft_add_eq_or_of_lt hw, Nat.shiftLeft_eq]
  omega
/-- What is read is what was put. -/
theorem getA_put : ∀ (v : Nat) (i u : Nat) (rest : List UInt8), v * 128 ^ i < 18446744073709551616 → i ≤ 9 → (0 < i → 0 < v) → getA (put v ++ rest) i u = some (u + v * 128 ^ i, i + (put v).length)
  | v, i, u, rest, hv, hi, h0 => by
    have h9 : i = 9 → v ≤ 1 := fun e => by subst e; omega
    rcases Nat.lt_or_ge v 128 with h | h
    · rw [put_small h, List.singleton_append]
      have e : (UInt8.ofNat v).toNat = v := by simp [UInt8.toNat_ofNat']; omega
      unfold getA
      rw [e, if_neg (by omega), if_pos h, Nat.mod_eq_of_lt h]
      rfl
    · have hlt9 : i < 9 := by omega
      rw [put_more (v := v) (by omega), List.cons_append]
      have e : (UInt8.ofNat (v % 128 + 128)).toNat = v % 128 + 128 := by simp [UInt8.toNat_ofNat']; omega
      have hd : v / 128 * 128 ^ (i + 1) + v % 128 * 128 ^ i = v * 128 ^ i := by
        have h1 := Nat.div_add_mod v 128
        rw [Nat.pow_succ, Nat.mul_comm (128 ^ i) 128, ← Nat.mul_assoc, ← Nat.add_mul]
        congr 1
        omega
      have ih := getA_put (v / 128) (i + 1) (u + v % 128 * 128 ^ i) rest (by omega) (by omega) (fun _ => by omega)
      unfold getA
      rw [e, if_neg (by omega), if_neg (by omega), show (v % 128 + 128) % 128 = v % 128 by omega, ih]
      simp only [List.length_cons]
      congr 2 <;> omega
theorem getG_put (v : Nat) (rest : List UInt8) (hv : v < 18446744073709551616) : getG (put v ++ rest) = some (v, (put v).length) := by
  have := getA_put v 0 0 rest (by simpa using hv) (by decide) (fun h => absurd h (by decide))
  simpa [getG] using this
/-- What was read had been put so. -/
theorem getA_back : ∀ {s : List UInt8} {i u : Nat} {r : Nat × Nat}, getA s i u = some r → ∃ v, r.1 = u + v * 128 ^ i ∧ (0 < i → 0 < v) ∧ r.2 = i + (put v).length ∧ ∃ rest, s = put v ++ rest
  | [], i, u, r, h => by cases h
  | c :: s, i, u, r, h => by
    unfold getA at h
    split at h
    · cases h
    · rename_i hn
      split at h
      · rename_i hc
        cases h
        refine ⟨c.toNat, by rw [Nat.mod_eq_of_lt hc], fun hi => by omega, by rw [put_small hc]; rfl, s, ?_⟩
        rw [put_small hc, UInt8.ofNat_toNat]
        rfl
      · rename_i hc
        obtain ⟨v, h1, h2, h3, rest, h4⟩ := getA_back h
        have hv := h2 (by omega)
        have hlt := UInt8.toNat_lt c
        refine ⟨v * 128 + c.toNat % 128, ?_, fun _ => by omega, ?_, rest, ?_⟩
        · rw [h1, Nat.pow_succ, Nat.add_mul, Nat.mul_comm (128 ^ i) 128, ← Nat.mul_assoc]
          omega
        · rw [put_more (by omega), h3, show (v * 128 + c.toNat % 128) / 128 = v by omega]
          simp only [List.length_cons]
          omega
        · rw [put_more (by omega), show (v * 128 + c.toNat % 128) / 128 = v by omega, show (v * 128 + c.toNat % 128) % 128 + 128 = c.toNat by omega, UInt8.ofNat_toNat, List.cons_append, ← h4]
theorem getG_back {s : List UInt8} {v n : Nat} (h : getG s = some (v, n)) : n = (put v).length ∧ ∃ rest, s = put v ++ rest := by
  obtain ⟨u, h1, _, h3, h4⟩ := getA_back h
  simp at h1
  subst h1
  exact ⟨by simpa using h3, h4⟩
/-- A text: its length, its bytes. -/
def textG (s : List UInt8) : Option (List UInt8 × Nat) := match getG s with
  | none => none
  | some (v, n) => if s.length - n < v then none else some ((s.drop n).take v, n + v)
def textV (s : List UInt8) : List UInt8 := ((textG s).map (·.1)).getD []
def textN (s : List UInt8) : Nat := ((textG s).map (·.2)).getD 0
def textO (s : List UInt8) : Bool := (textG s).isSome
theorem textG_put (t rest : List UInt8) (ht : t.length < 18446744073709551616) : textG (put t.length ++ t ++ rest) = some (t, (put t.length).length + t.length) := by
  unfold textG
  rw [List.append_assoc, getG_put t.length (t ++ rest) ht]
  dsimp only
  rw [if_neg (by simp only [List.length_append]; omega), List.drop_left, List.take_left]
theorem textG_back {s t : List UInt8} {n : Nat} (h : textG s = some (t, n)) : n = (put t.length ++ t).length ∧ ∃ rest, s = put t.length ++ t ++ rest := by
  unfold textG at h
  split at h
  · cases h
  · rename_i v k hg
    obtain ⟨h1, rest, h2⟩ := getG_back hg
    split at h
    · cases h
    · rename_i hlt
      cases h
      subst h2
      rw [List.length_append] at hlt
      have e1 : ((put v ++ rest).drop k).take v = rest.take v := by rw [h1, List.drop_left]
      have e2 : (rest.take v).length = v := by rw [List.length_take]; omega
      rw [e1, e2, h1]
      refine ⟨by rw [List.length_append, e2], rest.drop v, ?_⟩
      rw [List.append_assoc, List.take_append_drop]
theorem text_bound {s : List UInt8} : textN s ≤ s.length ∧ (textV s).length ≤ s.length ∧ (textO s = true → 0 < textN s) := by
  unfold textN textV textO
  cases h : textG s with
  | none => simp
  | some r =>
    obtain ⟨t, n⟩ := r
    obtain ⟨h1, rest, h2⟩ := textG_back h
    have hp : 0 < (put t.length).length := by
      have := getG_put
      rcases Nat.lt_or_ge t.length 128 with h | h
      · rw [put_small h]; simp
      · rw [put_more (v := t.length) (by omega)]; simp
    simp only [Option.map_some, Option.getD_some, Option.isSome_some, h1, h2, List.length_append]
    omega
end Go.Ab

/- The sum of a text (SHA-256), as a function of its bytes. No program in sight. -/
set_option linter.unusedVariables false
set_option linter.unusedSimpArgs false
namespace Go.Ab
theorem or_mul {x y : UInt32} {q k : Nat} (hx : x.toNat = q * 2 ^ k) (hy : y.toNat < 2 ^ k) : (x ||| y).toNat = q * 2 ^ k + y.toNat := by
  rw [UInt32.toNat_or, hx, ← Nat.shiftLeft_eq, ← Nat.shiftLeft_add_eq_or_of_lt hy]
theorem shl_mul {x : UInt32} {k : Nat} (hk : k < 32) (hx : x.toNat * 2 ^ k < 4294967296) : (x <<< UInt32.ofNat k).toNat = x.toNat * 2 ^ k := by
  have e : (UInt32.ofNat k).toNat = k := by rw [UInt32.toNat_ofNat']; exact Nat.mod_eq_of_lt (by omega)
  rw [UInt32.toNat_shiftLeft, e, Nat.mod_eq_of_lt hk, Nat.shiftLeft_eq]
  exact Nat.mod_eq_of_lt hx
theorem b32 (c : UInt8) : (UInt32.ofNat c.toNat).toNat = c.toNat := by
  have := UInt8.toNat_lt c
  rw [UInt32.toNat_ofNat']; exact Nat.mod_eq_of_lt (by omega)
theorem getD_app_r {α : Type} (a b : List α) (i : Nat) (d : α) (h : a.length ≤ i) : (a ++ b).getD i d = b.getD (i - a.length) d := by
  rw [List.getD_eq_getElem?_getD, List.getElem?_append_right h, List.getD_eq_getElem?_getD]
theorem getD_app_l {α : Type} (a b : List α) (i : Nat) (d : α) (h : i < a.length) : (a ++ b).getD i d = a.getD i d := by
  rw [List.getD_eq_getElem?_getD, List.getElem?_append_left h, List.getD_eq_getElem?_getD]
/-- Four bytes as a word. -/
def be32 (a b c d : UInt8) : UInt32 := UInt32.ofNat (((a.toNat * 256 + b.toNat) * 256 + c.toNat) * 256 + d.toNat)
theorem be32_or (a b c d : UInt8) : UInt32.ofNat a.toNat <<< UInt32.ofNat 24 ||| UInt32.ofNat b.toNat <<< UInt32.ofNat 16 ||| UInt32.ofNat c.toNat <<< UInt32.ofNat 8 ||| UInt32.ofNat d.toNat = be32 a b c d := by
  have ha := UInt8.toNat_lt a
  have hb := UInt8.toNat_lt b
  have hc := UInt8.toNat_lt c
  have hd := UInt8.toNat_lt d
  have s1 := shl_mul (x := UInt32.ofNat a.toNat) (k := 24) (by decide) (by rw [b32]; omega)
  have s2 := shl_mul (x := UInt32.ofNat b.toNat) (k := 16) (by decide) (by rw [b32]; omega)
  have s3 := shl_mul (x := UInt32.ofNat c.toNat) (k := 8) (by decide) (by rw [b32]; omega)
  rw [b32] at s1 s2 s3
  have t1 := or_mul s1 (y := UInt32.ofNat b.toNat <<< UInt32.ofNat 16) (by rw [s2]; omega)
  rw [s2] at t1
  have t2 := or_mul (q := a.toNat * 256 + b.toNat) (k := 16) (t1.trans (by omega)) (y := UInt32.ofNat c.toNat <<< UInt32.ofNat 8) (by rw [s3]; omega)
  rw [s3] at t2
  have t3 := or_mul (q := (a.toNat * 256 + b.toNat) * 256 + c.toNat) (k := 8) (t2.trans (by omega)) (y := UInt32.ofNat d.toNat) (by rw [b32]; omega)
  rw [b32] at t3
  rw [be32]
  have e : ((a.toNat * 256 + b.toNat) * 256 + c.toNat) * 256 + d.toNat = ((a.toNat * 256 + b.toNat) * 256 + c.toNat) * 2 ^ 8 + d.toNat := rfl
  rw [e, ← t3, UInt32.ofNat_toNat]
def rotr (x : UInt32) (n : Nat) : UInt32 := x >>> UInt32.ofNat n ||| x <<< UInt32.ofNat (32 - n)
/-- The words of a block. -/
def wNext (w : List UInt32) : UInt32 :=
  let x := w.getD (w.length - 15) 0
  let y := w.getD (w.length - 2) 0
  (rotr y 17 ^^^ rotr y 19 ^^^ y >>> UInt32.ofNat 10) + w.getD (w.length - 7) 0 + (rotr x 7 ^^^ rotr x 18 ^^^ x >>> UInt32.ofNat 3) + w.getD (w.length - 16) 0
def sched (b : List UInt8) : Nat → List UInt32
  | 0 => []
  | n + 1 => sched b n ++ [if n < 16 then be32 (b.getD (4 * n) 0) (b.getD (4 * n + 1) 0) (b.getD (4 * n + 2) 0) (b.getD (4 * n + 3) 0) else wNext (sched b n)]
theorem sched_length (b : List UInt8) : ∀ n, (sched b n).length = n
  | 0 => rfl
  | n + 1 => by simp [sched, sched_length b n]
/-- The constants. -/
def shaK : List UInt32 := [
  0x428a2f98, 0x71374491, 0xb5c0fbcf, 0xe9b5dba5, 0x3956c25b, 0x59f111f1, 0x923f82a4, 0xab1c5ed5,
  0xd807aa98, 0x12835b01, 0x243185be, 0x550c7dc3, 0x72be5d74, 0x80deb1fe, 0x9bdc06a7, 0xc19bf174,
  0xe49b69c1, 0xefbe4786, 0x0fc19dc6, 0x240ca1cc, 0x2de92c6f, 0x4a7484aa, 0x5cb0a9dc, 0x76f988da,
  0x983e5152, 0xa831c66d, 0xb00327c8, 0xbf597fc7, 0xc6e00bf3, 0xd5a79147, 0x06ca6351, 0x14292967,
  0x27b70a85, 0x2e1b2138, 0x4d2c6dfc, 0x53380d13, 0x650a7354, 0x766a0abb, 0x81c2c92e, 0x92722c85,
  0xa2bfe8a1, 0xa81a664b, 0xc24b8b70, 0xc76c51a3, 0xd192e819, 0xd6990624, 0xf40e3585, 0x106aa070,
  0x19a4c116, 0x1e376c08, 0x2748774c, 0x34b0bcb5, 0x391c0cb3, 0x4ed8aa4a, 0x5b9cca4f, 0x682e6ff3,
  0x748f82ee, 0x78a5636f, 0x84c87814, 0x8cc70208, 0x90befffa, 0xa4506ceb, 0xbef9a3f7, 0xc67178f2]
def shaH : List UInt32 := [0x6a09e667, 0xbb67ae85, 0x3c6ef372, 0xa54ff53a, 0x510e527f, 0x9b05688c, 0x1f83d9ab, 0x5be0cd19]
/-- One round. -/
def shaT1 (w : List UInt32) (t : Nat) (s : List UInt32) : UInt32 :=
  let e := s.getD 4 0
  s.getD 7 0 + (rotr e 6 ^^^ rotr e 11 ^^^ rotr e 25) + ((e &&& s.getD 5 0) ^^^ (~~~ e &&& s.getD 6 0)) + shaK.getD t 0 + w.getD t 0
def shaT2 (s : List UInt32) : UInt32 :=
  let a := s.getD 0 0
  (rotr a 2 ^^^ rotr a 13 ^^^ rotr a 22) + ((a &&& s.getD 1 0) ^^^ (a &&& s.getD 2 0) ^^^ (s.getD 1 0 &&& s.getD 2 0))
def shaRound (w : List UInt32) (t : Nat) (s : List UInt32) : List UInt32 :=
  [shaT1 w t s + shaT2 s, s.getD 0 0, s.getD 1 0, s.getD 2 0, s.getD 3 0 + shaT1 w t s, s.getD 4 0, s.getD 5 0, s.getD 6 0]
def shaRounds (w : List UInt32) (h : List UInt32) : Nat → List UInt32
  | 0 => h
  | t + 1 => shaRound w t (shaRounds w h t)
theorem shaRounds_length (w : List UInt32) {h : List UInt32} (hh : h.length = 8) : ∀ t, (shaRounds w h t).length = 8
  | 0 => hh
  | t + 1 => rfl
def addW : List UInt32 → List UInt32 → List UInt32 := List.zipWith (· + ·)
/-- A block taken in. -/
def shaBlock (h : List UInt32) (b : List UInt8) : List UInt32 := addW h (shaRounds (sched b 64) h 64)
theorem shaBlock_length {h : List UInt32} (hh : h.length = 8) (b : List UInt8) : (shaBlock h b).length = 8 := by
  simp [shaBlock, addW, shaRounds_length _ hh, hh]
/-- Whole blocks, one behind the other; what is left is left. -/
def shaAll (h : List UInt32) (l : List UInt8) : List UInt32 := if _hl : 64 ≤ l.length then shaAll (shaBlock h (l.take 64)) (l.drop 64) else h
termination_by l.length
decreasing_by simp; omega
theorem shaAll_lt {h : List UInt32} {l : List UInt8} (hl : l.length < 64) : shaAll h l = h := by rw [shaAll, dif_neg (by omega)]
theorem shaAll_ge {h : List UInt32} {l : List UInt8} (hl : 64 ≤ l.length) : shaAll h l = shaAll (shaBlock h (l.take 64)) (l.drop 64) := by rw [shaAll, dif_pos hl]
theorem shaAll_length (h : List UInt32) (l : List UInt8) (hh : h.length = 8) : (shaAll h l).length = 8 := by
  induction l using (measure List.length).wf.induction generalizing h with
  | _ l ih =>
    by_cases hl : 64 ≤ l.length
    · rw [shaAll_ge hl]
      exact ih (l.drop 64) (by show (l.drop 64).length < l.length; simp; omega) _ (shaBlock_length hh _)
    · rw [shaAll_lt (by omega)]; exact hh
/-- What is left of a text behind its whole blocks. -/
def shaRest (l : List UInt8) : List UInt8 := l.drop (l.length / 64 * 64)
/-- More bytes. -/
theorem shaAll_append (h : List UInt32) (a b : List UInt8) : shaAll h (a ++ b) = shaAll (shaAll h a) (shaRest a ++ b) := by
  induction a using (measure List.length).wf.induction generalizing h with
  | _ a ih =>
    by_cases ha : 64 ≤ a.length
    · have e1 : (a ++ b).take 64 = a.take 64 := List.take_append_of_le_length ha
      have e2 : (a ++ b).drop 64 = a.drop 64 ++ b := List.drop_append_of_le_length ha
      have e3 : shaRest (a.drop 64) = shaRest a := by
        unfold shaRest
        rw [List.length_drop, List.drop_drop]
        congr 1
        omega
      rw [shaAll_ge (show 64 ≤ (a ++ b).length by simp; omega), e1, e2, ih (a.drop 64) (by show (a.drop 64).length < a.length; simp; omega), e3, ← shaAll_ge ha]
    · rw [shaAll_lt (l := a) (by omega)]
      have : shaRest a = a := by unfold shaRest; rw [show a.length / 64 = 0 by omega]; rfl
      rw [this]
/-- A text's end: a bit, zeros, its length. -/
def be64 (n : Nat) : List UInt8 := [UInt8.ofNat (n / 72057594037927936), UInt8.ofNat (n / 281474976710656), UInt8.ofNat (n / 1099511627776), UInt8.ofNat (n / 4294967296), UInt8.ofNat (n / 16777216), UInt8.ofNat (n / 65536), UInt8.ofNat (n / 256), UInt8.ofNat n]
def shaTail (n : Nat) : List UInt8 := 128 :: (List.replicate ((119 - n % 64) % 64) 0 ++ be64 (8 * n))
/-- A word as four bytes. -/
def by32 (v : UInt32) : List UInt8 := [UInt8.ofNat (v.toNat / 16777216), UInt8.ofNat (v.toNat / 65536), UInt8.ofNat (v.toNat / 256), UInt8.ofNat v.toNat]
def shaOut (h : List UInt32) : List UInt8 := h.flatMap by32
/-- The sum. -/
def sha (l : List UInt8) : List UInt8 := shaOut (shaAll shaH (l ++ shaTail l.length))
theorem shaOut_length (h : List UInt32) : (shaOut h).length = 4 * h.length := by
  induction h with
  | nil => rfl
  | cons v h ih => simp only [shaOut, List.flatMap_cons, List.length_append] at ih ⊢; rw [ih]; simp [by32]; omega
theorem sha_length (l : List UInt8) : (sha l).length = 32 := by rw [sha, shaOut_length, shaAll_length _ _ rfl]
/-- The first bits of bytes. -/
def keepB (bits : Int) (i : Nat) (c : UInt8) : UInt8 := UInt8.ofNat (c.toNat / 2 ^ (8 - min 8 (bits - 8 * i).toNat) * 2 ^ (8 - min 8 (bits - 8 * i).toNat))
def kept (l : List UInt8) (bits : Int) : List UInt8 := (sha l).mapIdx (keepB bits)
theorem kept_length (l : List UInt8) (bits : Int) : (kept l bits).length = 32 := by rw [kept, List.length_mapIdx, sha_length]
end Go.Ab

/- Steps (part 13): arrays, in variables and in memory that turns no more; slices of a variable; rotations. No program in sight. -/
set_option linter.unusedVariables false
set_option linter.unusedSimpArgs false
namespace Go.Ab
variable {P : Program}
def wrd (w : UInt32) : AV := .val (.int .u32 w.toNat)
instance (w : UInt32) : Cells (wrd w) [W32 w] := ⟨rfl⟩
instance (n : Int) (w : UInt32) [h : U32Of n w] : AsF wrd (.val (.int .u32 n)) w := ⟨by rw [h.eq]; rfl⟩
instance (n : Nat) (c : AV) [h : One c] : Ones (List.replicate n c) := ⟨fun x hx => by rw [(List.mem_replicate.1 hx).2]; exact h.one⟩
/-- Each is one cell. -/
class EncOne {α : Type} (f : α → AV) : Prop where
  cells : ∀ a, (f a).cells = [f a]
  one : ∀ a, (f a).one = true
instance : EncOne wrd := ⟨fun _ => rfl, fun _ => rfl⟩
instance : EncOne byt := ⟨fun _ => rfl, fun _ => rfl⟩
section arr
variable {α : Type} {f : α → AV} {s sz n m a o b fl : Nat} {l l' : List α} {t : TypeId} {cs cs' : List AV} {σ rest : Store} {put : Ent → Store} {K : AV → Prop} {k : AV → Store → Prop} {u x : AV} {z : Int} {kk : IntKind} {cond : Prop}
/-! where an element stands -/
instance (priority := 1100) ixA0 [h : NatOf z a] : Stp (Do (aIndexAddr (.array n) 1 (ptrAt b 0) (.val (.int kk z))) K) (Need (a < n) (K (ptrAt b a))) := ⟨fun ⟨h1, hK⟩ => by
  refine ⟨_, ⟨by rw [h.eq]; omega, by rw [h.eq]; omega, rfl⟩, ?_⟩
  rw [h.eq, Int.toNat_natCast, addr_lit_add, Nat.mul_one, Nat.zero_add]
  exact hK⟩
instance ixA [h : NatOf z a] : Stp (Do (aIndexAddr (.array n) 1 (ptrAt b o) (.val (.int kk z))) K) (Need (a < n) (K (ptrAt b (o + a)))) := ⟨fun ⟨h1, hK⟩ => by
  refine ⟨_, ⟨by rw [h.eq]; omega, by rw [h.eq]; omega, rfl⟩, ?_⟩
  rw [h.eq, Int.toNat_natCast, addr_lit_add, Nat.mul_one]
  exact hK⟩
instance ixV [h : NatOf z a] : Stp (Do (aIndexAddr .slice 1 (.val (.slice (some ⟨b, o, none⟩) n m)) (.val (.int kk z))) K) (Need (a < n) (K (ptrAt b (o + a)))) := ⟨fun ⟨h1, hK⟩ => by
  refine ⟨_, ⟨by rw [h.eq]; omega, by rw [h.eq]; omega, rfl⟩, ?_⟩
  rw [h.eq, Int.toNat_natCast, addr_lit_add, Nat.mul_one]
  exact hK⟩
theorem drop_one [Inhabited α] (hf : EncOne f) {l : List α} {a : Nat} (h : a < l.length) : ((l.map f).drop a).take 1 = [f (l.getD a default)] := by
  have e : l.drop a = l.getD a default :: l.drop (a + 1) := by
    rw [List.drop_eq_getElem_cons h, List.getD_eq_getElem?_getD, List.getElem?_eq_getElem h]
    rfl
  rw [← List.map_drop, e]
  simp
instance ixAR [Inhabited α] [hf : EncOne f] [h : NatOf z a] : Stp (Do (aIndexAddr (.array n) 1 (.rptr (l.map f)) (.val (.int kk z))) K) (Need (a < n ∧ a < l.length) (K (.rptr [f (l.getD a default)]))) := ⟨fun ⟨h1, hK⟩ => by
  refine ⟨_, ⟨by rw [h.eq]; omega, by rw [h.eq]; omega, ?_, rfl⟩, ?_⟩
  · rw [h.eq, Int.toNat_natCast, List.length_map]; omega
  · rw [h.eq, Int.toNat_natCast, Nat.mul_one, drop_one hf h1.2]
    exact hK⟩
instance ixG [Inhabited α] [hf : EncOne f] [h : NatOf z a] [hc : Cells (f (l.getD a default)) [u]] : Stp (Do (aIndex (.array n) false 1 (.agg (l.map f)) (.val (.int kk z))) K) (Need (a < n ∧ a < l.length) (K u)) := ⟨fun ⟨h1, hK⟩ => by
  refine ⟨_, ⟨by rw [h.eq]; omega, by rw [h.eq]; omega, ?_, fun _ => rfl, rfl⟩, ?_⟩
  · rw [h.eq, Int.toNat_natCast, List.length_map]; omega
  · rw [h.eq, Int.toNat_natCast, Nat.mul_one, drop_one hf h1.2]
    have e := hc.eq
    rw [hf.cells] at e
    have e2 : f (l.getD a default) = u := by simpa using e
    rw [e2]
    exact hK⟩
/-! a variable's element -/
class ElemAt (cs : List AV) (o : Nat) (cond : outParam Prop) (u : outParam AV) : Prop where
  get : cond → o < cs.length ∧ (cs.drop o).take 1 = [u]
class SetAt (cs : List AV) (o : Nat) (x : AV) (cond : outParam Prop) (cs' : outParam (List AV)) : Prop where
  set : cond → o < cs.length ∧ splice cs o [x] = cs'
  plain : x.cells = [x] ∧ x.one = true
instance elM [Inhabited α] [hf : EncOne f] [hc : Cells (f (l.getD o default)) [u]] : ElemAt (l.map f) o (o < l.length) u := ⟨fun h => ⟨by simpa using h, by
  rw [drop_one hf h]
  have e := hc.eq
  rw [hf.cells] at e
  exact e⟩⟩
theorem splice_map {l : List α} {o : Nat} (h : o < l.length) (y : α) : splice (l.map f) o [f y] = (l.set o y).map f := by
  unfold splice
  rw [← List.map_take, ← List.map_drop, List.set_eq_take_append_cons_drop, if_pos h]
  simp
instance setMap {y : α} [hf : EncOne f] [ha : AsF f x y] : SetAt (l.map f) o x (o < l.length) ((l.set o y).map f) := ⟨fun h => ⟨by simpa using h, by rw [ha.eq]; exact splice_map h y⟩, by rw [ha.eq]; exact ⟨hf.cells y, hf.one y⟩⟩
instance (priority := 70) ldEl [hv : VarAt b σ t cs put rest] [h : ElemAt cs o cond u] : Stp (Do (loadA false 1 (ptrAt b o) σ) K) (Need cond (K u)) := ⟨fun ⟨h1, hK⟩ => by
  obtain ⟨g1, g2⟩ := h.get h1
  obtain ⟨σ1, σ2, e, _⟩ := hv.at_
  exact ⟨u, ⟨by decide, fun _ => rfl, rfl, t, cs, by rw [e]; simp, by show o + 1 ≤ _; omega, by show u = mkV false ((cs.drop o).take 1); rw [g2]; rfl⟩, hK⟩⟩
instance (priority := 70) stEl [hv : VarAt b σ t cs put rest] [h : SetAt cs o x cond cs'] : Stp (storeA 1 (ptrAt b o) x σ k) (Need cond (k .undef (put (.var b t cs')))) := ⟨fun ⟨h1, hK⟩ => by
  obtain ⟨g1, g2⟩ := h.set h1
  obtain ⟨σ1, σ2, e, e2, _⟩ := hv.at_
  refine ⟨by rw [h.plain.1]; rfl, by rw [h.plain.1]; intro c hc; rw [List.mem_singleton.1 hc]; exact h.plain.2, rfl, σ1, σ2, t, cs, e, by show o + 1 ≤ _; omega, ?_⟩
  rw [e2] at hK
  rw [h.plain.1, g2]
  exact hK⟩
/-! a variable that is an array, whole -/
instance (priority := 60) ldAll [hf : EncOne f] [hv : VarAt b σ t (l.map f) put rest] : Stp (Do (loadA true s (ptrAt b 0) σ) K) (Need (l.length = s ∧ 0 < s) (K (.agg (l.map f)))) := ⟨fun ⟨h1, hK⟩ => by
  obtain ⟨σ1, σ2, e, _⟩ := hv.at_
  refine ⟨_, ⟨h1.2, fun h => by (cases h), rfl, t, l.map f, by rw [e]; simp, by simp [h1.1], ?_⟩, hK⟩
  rw [List.drop_zero, List.take_of_length_le (by simp [h1.1])]
  rfl⟩
instance (priority := 60) stAll [hf : EncOne f] [hv : VarAt b σ t (l.map f) put rest] : Stp (storeA s (ptrAt b 0) (.agg (l'.map f)) σ k) (Need (l.length = s ∧ l'.length = s) (k .undef (put (.var b t (l'.map f))))) := ⟨fun ⟨h1, hK⟩ => by
  obtain ⟨σ1, σ2, e, e2, _⟩ := hv.at_
  refine ⟨by simp [AV.cells, h1.2], fun c hc => ?_, rfl, σ1, σ2, t, l.map f, e, by simp [h1.1], ?_⟩
  · obtain ⟨y, _, rfl⟩ := List.mem_map.1 (show c ∈ l'.map f from hc)
    exact hf.one y
  · rw [e2] at hK
    have : splice (l.map f) 0 (AV.cells (.agg (l'.map f))) = l'.map f := by
      show splice (l.map f) 0 (l'.map f) = _
      unfold splice
      rw [List.take_zero, List.nil_append, Nat.zero_add, List.drop_of_length_le (by simp; omega), List.append_nil]
    rw [this]
    exact hK⟩
/-! a slice of a variable; of an array that turns no more -/
instance slA [h : NatOf z a] : Stp (Do (aSlice (.array n) 1 (ptrAt b o) (some (.val (.int kk z))) none none) K) (Need (a < n) (K (.val (.slice (some ⟨b, o + a, none⟩) (n - a) (n - a))))) := ⟨fun ⟨h1, hK⟩ => by
  have e := h.eq
  subst e
  refine ⟨_, ⟨by omega, by omega, Int.le_refl _, rfl⟩, ?_⟩
  rw [Int.toNat_natCast, if_neg (by omega), addr_lit_add, Nat.mul_one, show ((n : Int) - (a : Int)).toNat = n - a by omega]
  exact hK⟩
instance slA0 : Stp (Do (aSlice (.array n) 1 (ptrAt b o) none none none) K) (K (.val (.slice (some ⟨b, o, none⟩) n n))) := ⟨fun hK => by
  refine ⟨_, ⟨Int.le_refl _, by omega, Int.le_refl _, rfl⟩, ?_⟩
  have e1 : ((n : Int) - 0).toNat = n := by omega
  have e2 : (if n = Int.toNat 0 then (⟨b, o, none⟩ : Addr) else (⟨b, o, none⟩ : Addr).add (Int.toNat 0 * 1)) = ⟨b, o, none⟩ := by
    split
    · rfl
    · rw [addr_lit_add]; rfl
  rw [e1, e2]
  exact hK⟩
instance (priority := 70) srcV [Inhabited α] [hf : EncOne f] [hv : VarAt b σ t (l.map f) put rest] [he : Enc f 1] : SrcI 1 σ (.val (.slice (some ⟨b, 0, none⟩) l.length m)) α f l := ⟨⟨⟨rfl, rfl, t, l.map f, by
    obtain ⟨σ1, σ2, e, _⟩ := hv.at_
    rw [e]; simp, by simp, fun c hc => by obtain ⟨y, _, rfl⟩ := List.mem_map.1 hc; rw [hf.cells]; rfl, by rw [List.drop_zero, List.take_of_length_le (by simp)]⟩, fun _ c hc => by obtain ⟨y, _, rfl⟩ := List.mem_map.1 hc; rw [hf.cells]; rfl⟩⟩
/-! literals of arrays -/
class ArrZ (zs : List AV) (α : outParam Type) (f : outParam (α → AV)) : Prop where
  some : True
instance (r : List AV) : ArrZ (.val (.int .u32 0) :: r) UInt32 wrd := ⟨trivial⟩
instance (priority := 60) litA {zs : List AV} {offs : List (Nat × Nat)} {parts : List (Nat × AV)} {ys : List α} [hz : ArrZ zs α f] [hf : EncOne f] [hp : Parts f parts 0 ys] : Stp (Do (aLit zs offs parts) K) (Fact (fillA (offs[·]?) zs parts = some (ys.map f)) (K (.agg (ys.map f)))) := ⟨fun ⟨h, hK⟩ => ⟨_, ⟨fun p hpm c hc => by
  rw [hp.eq] at hpm
  obtain ⟨q, hq, rfl⟩ := List.mem_map.1 hpm
  have h2 := List.mem_zipIdx hq |>.2
  have : q.1 ∈ ys.map f := by
    rw [h2.2]
    exact List.getElem_mem _
  obtain ⟨y, _, e⟩ := List.mem_map.1 this
  rw [← e, hf.cells] at hc
  rw [List.mem_singleton.1 hc]
  exact hf.one y, _, h, rfl⟩, hK⟩⟩
end arr
end Go.Ab

/- Steps (part 14): variables that turn no more, told as frozen memory, also within what closures hold. No program in sight. -/
set_option linter.unusedVariables false
set_option linter.unusedSimpArgs false
namespace Go.Ab
variable {P : Program}
theorem freeze_var {R : RO} {w : World} {σ1 σ2 : Store} {b : Nat} {t : TypeId} {cs : List AV} (hs : St R w (σ1 ++ .var b t cs :: σ2)) :
    ∃ R' : RO, R.le R' ∧ St R' w (σ1 ++ σ2) ∧ Ext R w (σ1 ++ .var b t cs :: σ2) R' w (σ1 ++ σ2) ∧ VR R' (.pointer (some ⟨b, 0, none⟩)) (.rptr cs) := by
  have hp := List.pairwise_append.1 hs.apart
  have hp2 := List.pairwise_cons.1 hp.2.1
  let R' : RO := fun a => if a.block = b ∧ a.spot = none then w.cell? a else R a
  have hle : R.le R' := by
    intro a x ha
    show (if _ then _ else _) = _
    split
    · exact hs.ro a x ha
    · exact ha
  have hR : ∀ a x, R' a = some x → R a = some x ∨ a.block = b := by
    intro a x ha
    by_cases h : a.block = b ∧ a.spot = none
    · exact .inr h.1
    · have : R' a = R a := if_neg h
      rw [this] at ha
      exact .inl ha
  have hmem : (Ent.var b t cs) ∈ σ1 ++ .var b t cs :: σ2 := by simp
  obtain ⟨⟨vs, h3, h4, h5⟩, h6⟩ := hs.ents _ hmem
  refine ⟨R', hle, ⟨fun a x ha => ?_, fun e he => ?_, ?_⟩, ⟨hle, rfl, rfl, rfl, Nat.le_refl _, fun _ _ _ => rfl, fun k hk => .inl ?_, fun a x ha => ?_⟩, ?_⟩
  · by_cases h : a.block = b ∧ a.spot = none
    · have : R' a = w.cell? a := if_pos h
      rw [← this]; exact ha
    · have : R' a = R a := if_neg h
      rw [this] at ha
      exact hs.ro a x ha
  · have hne : ∀ k, e.blk = some k → k ≠ b := by
      intro k hb hvb
      rcases List.mem_append.1 he with he | he
      · exact hp.2.2 e he _ (List.mem_cons_self ..) k hb (by rw [hvb]; rfl)
      · exact hp2.1 e he b rfl (hvb ▸ hb)
    have he' : e ∈ σ1 ++ .var b t cs :: σ2 := by
      rcases List.mem_append.1 he with he | he
      · exact List.mem_append.2 (.inl he)
      · exact List.mem_append.2 (.inr (List.mem_cons_of_mem _ he))
    refine (hs.ents e he').keep hle (fun _ _ => rfl) fun k hb a x ha hab => ?_
    rcases hR a x ha with h | h
    · exact h
    · exact absurd (hab ▸ h) (hne k hb)
  · refine List.pairwise_append.2 ⟨hp.1, hp2.2, fun x hx y hy => hp.2.2 x hx y (List.mem_cons_of_mem _ hy)⟩
  · rw [blks_append] at hk ⊢
    rcases List.mem_append.1 hk with hk | hk
    · exact List.mem_append.2 (.inl hk)
    · obtain ⟨e, he, hb⟩ := mem_blks.1 hk
      exact List.mem_append.2 (.inr (mem_blks.2 ⟨e, List.mem_cons_of_mem _ he, hb⟩))
  · rcases hR a x ha with h | h
    · exact .inl h
    · exact .inr (.inr (mem_blks.2 ⟨_, hmem, by rw [h]; rfl⟩))
  · refine .rptr vs h4.1 (h4.mono hle).2 fun j v hj => ?_
    have hc : R' ((⟨b, 0, none⟩ : Addr).add j) = w.cell? ((⟨b, 0, none⟩ : Addr).add j) := if_pos (by rw [addr_lit_add]; exact ⟨rfl, rfl⟩)
    rw [hc]
    rw [addr_lit_add, Nat.zero_add]
    simp [World.cell?, h3, hj]
/-- Told the same, but that a variable is frozen memory now. -/
class Fz (b : Nat) (cs : List AV) (u : AV) (u' : outParam AV) : Prop where
  fz : ∀ R v, VR R (.pointer (some ⟨b, 0, none⟩)) (.rptr cs) → VR R v u → VR R v u'
class FzL (b : Nat) (cs : List AV) (us : List AV) (us' : outParam (List AV)) : Prop where
  fz : ∀ R vs, VR R (.pointer (some ⟨b, 0, none⟩)) (.rptr cs) → VRs R vs us → VRs R vs us'
instance (priority := 10) fzSame (b : Nat) (cs : List AV) (u : AV) : Fz b cs u u := ⟨fun _ _ _ h => h⟩
instance (priority := 100) fzPtr (b : Nat) (cs : List AV) : Fz b cs (.val (.pointer (some ⟨b, 0, none⟩))) (.rptr cs) := ⟨fun R v h hv => by rw [hv.val_inv]; exact h⟩
instance (b : Nat) (cs : List AV) : FzL b cs [] [] := ⟨fun _ _ _ h => h⟩
instance (b : Nat) (cs : List AV) (u u' : AV) (us us' : List AV) [h : Fz b cs u u'] [k : FzL b cs us us'] : FzL b cs (u :: us) (u' :: us') := ⟨fun R vs hp hv => by
  obtain ⟨hl, hr⟩ := hv
  match vs, hl with
  | v :: vs, hl =>
    exact VRs.cons (h.fz R v hp (hr 0 u v rfl rfl)) (k.fz R vs hp ⟨by simpa using hl, fun j x y hx hy => hr (j + 1) x y (by simpa using hx) (by simpa using hy)⟩)⟩
instance (priority := 90) fzFn (b : Nat) (cs : List AV) (f : Fn) (us us' ws ws' : List AV) [h : FzL b cs us us'] [k : FzL b cs ws ws'] : Fz b cs (.fn f us ws) (.fn f us' ws') := ⟨fun R v hp hv => by
  cases hv with
  | fn hl hv hl' hv' =>
    have h1 := h.fz R _ hp ⟨hl, hv⟩
    have h2 := k.fz R _ hp ⟨hl', hv'⟩
    exact .fn h1.1 h1.2 h2.1 h2.2⟩
/-- A variable that nobody writes any more. -/
theorem Sub.frzV {b : Nat} {t : TypeId} {cs : List AV} {σ1 σ2 : Store} {us us' : List AV} [h : FzL b cs us us'] : Sub (σ1 ++ .var b t cs :: σ2) us (σ1 ++ σ2) us' := by
  intro R w vs hv hs
  obtain ⟨R', h1, h2, h3, h4⟩ := freeze_var hs
  exact ⟨R', h.fz R' vs h4 (hv.mono h1), h2, h3⟩
theorem Sub.frzVar {b : Nat} {t : TypeId} {cs : List AV} {σ rest : Store} {put : Ent → Store} {us us' : List AV} [hv : VarAt b σ t cs put rest] [h : FzL b cs us us'] : Sub σ us rest us' := by
  obtain ⟨σ1, σ2, e, _, e2⟩ := hv.at_
  rw [e, e2]
  exact Sub.frzV
/-- A call, its arguments told in other words. -/
theorem callBy {f : FuncId} {args args' : List AV} {σ σ' : Store} {k kp : AV → Store → Prop} {pre : Prop} {β : Type} {c : β → Prop} {r : β → AV} {s : β → Store} (hs : Sub σ args σ' args') [h : EQ P f args' σ' pre β c r s] (hp : pre) (hk : ∀ y, c y → k (r y) (s y)) : aCall P f args σ k kp :=
  Or.inl ⟨σ', args', hs, (h.ct hp).mono fun x τ ⟨y, e0, e1, e2⟩ => by rw [e1, e2]; exact hk y e0⟩
end Go.Ab
