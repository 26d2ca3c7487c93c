/- The texts that this claim needs, part 5: a logic over abstract values, its steps, what the functions do. No condition of its own. -/
import Derived.Test.YtghihffhjpchpaaProg
import Derived.Test.YtghihffhjpchpaaMoveLevelsK4
/- Functions of layers 1, 3 and 4: what they do. -/
set_option linter.unusedVariables false
set_option linter.unusedSimpArgs false
namespace Go.Ab
instance : KindIs Go.Proofs.Try.prog 3 .i64 := ⟨by kernel_rfl⟩
instance : KindIs Go.Proofs.Try.prog 5 .u8 := ⟨by kernel_rfl⟩
instance : StrT Go.Proofs.Try.prog 9 := ⟨by kernel_rfl⟩
instance : SlT Go.Proofs.Try.prog 22 := ⟨by kernel_rfl⟩
instance : SlT Go.Proofs.Try.prog 23 := ⟨by kernel_rfl⟩
instance : SlT Go.Proofs.Try.prog 34 := ⟨by kernel_rfl⟩
instance : SlT Go.Proofs.Try.prog 41 := ⟨by kernel_rfl⟩
instance : SlT Go.Proofs.Try.prog 71 := ⟨by kernel_rfl⟩
instance : MapT Go.Proofs.Try.prog 78 .string (.agg #[(.string ⟨#[]⟩), (.string ⟨#[]⟩), (.bool false), (.int .i64 0)]) := ⟨by kernel_rfl⟩
instance : SlT Go.Proofs.Try.prog 88 := ⟨by kernel_rfl⟩
instance : SlT Go.Proofs.Try.prog 89 := ⟨by kernel_rfl⟩
instance : SlT Go.Proofs.Try.prog 101 := ⟨by kernel_rfl⟩
instance : KindIs Go.Proofs.Try.prog 122 .u64 := ⟨by kernel_rfl⟩
instance : KindIs Go.Proofs.Try.prog 138 .u32 := ⟨by kernel_rfl⟩
def entry_Right.mark : Mark := ⟨fun t => false, fun t => false, fun t => Nat.beq t 1, fun t => Nat.beq t 4 || Nat.beq t 8 || Nat.beq t 14 || Nat.beq t 20 || Nat.beq t 23 || Nat.beq t 30 || Nat.beq t 35, fun t => false⟩
def entry_Right.ann : Ann := ⟨fun n => [], fun n => none, fun n => none⟩
/-- 'marlstone/entry.Right' -/
def entry_Right.sh (a0 : AV) (σ : Store) (Q : AEnd → Store → Prop) : Prop :=
  Do (aFreeze ((a0 : AV)).cells) fun t1 =>
  Do (aFieldAddr 0 1 t1) fun t3 =>
  Do (loadF false 1 t3) fun t4 =>
  Do (aBin Go.Proofs.Try.prog .neq 9 t4 (.val (.string ⟨#[]⟩))) fun t5 =>
  Do (aGuard t5 true (aFieldAddr 0 1 t1)) fun t7 =>
  Do (aGuard t5 true (loadF false 1 t7)) fun t8 =>
  Do (aGuard t5 true (aBuiltin Go.Proofs.Try.prog .len #[9] [t8])) fun t9 =>
  Do (aGuard t5 true (aBin Go.Proofs.Try.prog .leq 3 t9 (.val (.int .i64 128)))) fun t10 =>
  Do (aPick t5 t10 (.val (.bool false))) fun t11 =>
  Do (aGuard t11 true (aFieldAddr 1 1 t1)) fun t13 =>
  Do (aGuard t11 true (loadF false 1 t13)) fun t14 =>
  Do (aGuard t11 true (aBuiltin Go.Proofs.Try.prog .len #[9] [t14])) fun t15 =>
  Do (aGuard t11 true (aBin Go.Proofs.Try.prog .leq 3 t15 (.val (.int .i64 1024)))) fun t16 =>
  Do (aPick t11 t16 (.val (.bool false))) fun t17 =>
  Do (aGuard t17 true (aFieldAddr 2 1 t1)) fun t19 =>
  Do (aGuard t17 true (loadF false 1 t19)) fun t20 =>
  Do (aGuard t17 true (aIs t20)) fun t21 =>
  Do (aGuard t21 true (aFieldAddr 1 1 t1)) fun t22 =>
  Do (aGuard t21 true (loadF false 1 t22)) fun t23 =>
  Do (aGuard t21 true (aBin Go.Proofs.Try.prog .neq 9 t23 (.val (.string ⟨#[]⟩)))) fun t24 =>
  Do (aGuard t17 true (aPick t21 t24 (.val (.bool false)))) fun t25 =>
  Do (aGuard t17 true (aUn Go.Proofs.Try.prog .not t25)) fun t26 =>
  Do (aPick t17 t26 (.val (.bool false))) fun t27 =>
  Do (aGuard t27 true (aFieldAddr 3 1 t1)) fun t29 =>
  Do (aGuard t27 true (loadF false 1 t29)) fun t30 =>
  Do (aGuard t27 true (aBin Go.Proofs.Try.prog .geq 3 t30 (.val (.int .i64 1)))) fun t31 =>
  Do (aPick t27 t31 (.val (.bool false))) fun t32 =>
  Do (aGuard t32 true (aFieldAddr 3 1 t1)) fun t34 =>
  Do (aGuard t32 true (loadF false 1 t34)) fun t35 =>
  Do (aGuard t32 true (aBin Go.Proofs.Try.prog .leq 3 t35 (.val (.int .i64 1099511627776)))) fun t36 =>
  Do (aPick t32 t36 (.val (.bool false))) fun t37 =>
  Q (.ret t37) σ
theorem entry_Right.eq (a0 : AV) (σ : Store) (Q : AEnd → Store → Prop) : vc (semOf Go.Proofs.Try.prog entry_Right.mark) Go.Proofs.Try.f31.ntmps entry_Right.ann (bodyOf Go.Proofs.Try.f31) (endK [.tmp 2] Q) (argFr [a0]) σ = entry_Right.sh a0 σ Q := by kernel_rfl
theorem entry_Right.go {a0 : AV} {σ : Store} {Q : AEnd → Store → Prop} (h : entry_Right.sh a0 σ Q) : ACalls Go.Proofs.Try.prog 31 [a0] σ Q :=
  acalls_of_eq [.tmp 2] Go.Proofs.Try.func31 (by kernel_rfl) (by kernel_rfl) (by kernel_rfl) (by kernel_rfl) (entry_Right.eq a0 σ Q) h
theorem entry_Right_ok (e : En) : aPure Go.Proofs.Try.prog 31 [e.av] (B (right e)) := by
  refine entry_Right.go ?_
  unfold entry_Right.sh
  repeat' (first|with_reducible (first|apply Stp.go|refine imp fun _=>?_|(refine need ?_ ?_;first|trivial|omega|exact ⟨by assumption,by omega⟩|(simp only [zL,zM];omega))|refine choT (by assumption) ?_|refine choF (by assumption) ?_|refine choF' (by assumption) ?_|(refine altT ?_ ?_;first|omega|(simp only [zL,zM];omega))|refine altF ?_|refine all fun _=>?_|refine both ?_ ?_|(refine choT ?_ ?_;omega)|(refine choF ?_ ?_;omega)|refine cho (fun _=>?_) fun _=>?_)|(with_reducible refine fact ?_ ?_;first|trivial|exact ⟨rfl,rfl⟩|kernel_rfl))
  all_goals (refine ⟨?_, by first | rfl | trivial⟩; simp_all [right] <;> omega)
instance (e : En) : PC Go.Proofs.Try.prog 31 [e.av] True (B (right e)) := ⟨fun _ => PC.of (entry_Right_ok e)⟩

def codec_Put.mark : Mark := ⟨fun t => false, fun t => false, fun t => false, fun t => false, fun t => false⟩
def codec_Put.ann : Ann := ⟨fun n => bif Nat.beq n 2 then [0, 1] else [], fun n => none, fun n => none⟩
/-- 'marlstone/codec.Put' -/
def codec_Put.sh (a0 a1 : AV) (σ : Store) (Q : AEnd → Store → Prop) : Prop :=
  Do (aBuiltin Go.Proofs.Try.prog .len #[101] [a0]) fun t7 =>
  Do (aBuiltin Go.Proofs.Try.prog .len #[101] [a0]) fun t9 =>
  Do (aSlice .slice 1 a0 none (some t7) (some t9)) fun t10 =>
  aLoop (fun go vs σ =>
    At vs 0 fun s0 => At vs 1 fun s1 => Do (aBin Go.Proofs.Try.prog .geq 122 s1 (W64 128)) fun t12 =>
    aCond t12
      (Do (fun x => aConvN 122 5 s1 x Go.Proofs.Try.prog) fun t17 =>
    Do (aBin Go.Proofs.Try.prog .or 5 t17 (W8 128)) fun t18 =>
    Do (aSlLit (mkE [.val (.int .u8 0)]) 1 1 [(0, t18)]) fun t19 =>
    aAppend 5 1 1 s0 t19 σ (subK fun t20 σ_1 =>
    Do (aBin Go.Proofs.Try.prog .shr 122 s1 (W64 7)) fun t14 =>
    go [t20, t14] σ_1))
      (Do (fun x => aConvN 122 5 s1 x Go.Proofs.Try.prog) fun t23 =>
  Do (aSlLit (mkE [.val (.int .u8 0)]) 1 1 [(0, t23)]) fun t24 =>
  aAppend 5 1 1 s0 t24 σ (subK fun t25 σ_2 =>
  Q (.ret t25) σ_2)))
    [t10, a1] σ
theorem codec_Put.eq (a0 a1 : AV) (σ : Store) (Q : AEnd → Store → Prop) : vc (semOf Go.Proofs.Try.prog codec_Put.mark) Go.Proofs.Try.f83.ntmps codec_Put.ann (bodyOf Go.Proofs.Try.f83) (endK [.tmp 4] Q) (argFr [a0, a1]) σ = codec_Put.sh a0 a1 σ Q := by kernel_rfl
theorem codec_Put.go {a0 a1 : AV} {σ : Store} {Q : AEnd → Store → Prop} (h : codec_Put.sh a0 a1 σ Q) : ACalls Go.Proofs.Try.prog 83 [a0, a1] σ Q :=
  acalls_of_eq [.tmp 4] Go.Proofs.Try.func83 (by kernel_rfl) (by kernel_rfl) (by kernel_rfl) (by kernel_rfl) (codec_Put.eq a0 a1 σ Q) h
theorem u64_len {n : Nat} (h : n < 18446744073709551616) : (UInt64.ofNat n).toNat = n := by simp [UInt64.toNat_ofNat', Nat.mod_eq_of_lt h]
theorem put_w {w : UInt64} (h : 128 ≤ w.toNat) : put w.toNat = (UInt8.ofNat w.toNat ||| 128) :: put (w >>> UInt64.ofNat 7).toNat := by
  rw [put_more (by omega)]
  have e1 : (w >>> UInt64.ofNat 7).toNat = w.toNat / 128 := by simp [Nat.shiftRight_eq_div_pow]
  have e2 : UInt8.ofNat w.toNat ||| 128 = UInt8.ofNat (w.toNat % 128 + 128) := by
    apply UInt8.toNat.inj
    have := or_128 w.toNat
    rw [UInt8.toNat_or, UInt8.toNat_ofNat']
    show w.toNat % 256 ||| 128 = _
    rw [this]
    simp
    omega
  rw [e1, e2]
theorem codec_Put_ok (l : List UInt8) (m : SM) (v : UInt64) (hl : l.length ≤ 1000000000000) (τ : Store) :
    ACalls Go.Proofs.Try.prog 83 [.lst 1 (l.map byt) m, W64 v] τ fun x σ' => ∃ y, x = .ret (.own y (l ++ put v.toNat).length) ∧ σ' = .row y 5 1 ((l ++ put v.toNat).map byt) 0 :: τ := by
  refine codec_Put.go ?_
  unfold codec_Put.sh
  have hp := put_len64 (lt64 v)
  repeat' (first|with_reducible (first|apply Stp.go|refine imp fun _=>?_|(refine need ?_ ?_;first|trivial|omega|exact ⟨by assumption,by omega⟩|(simp only [zL,zM];omega))|refine choT (by assumption) ?_|refine choF (by assumption) ?_|refine choF' (by assumption) ?_|(refine altT ?_ ?_;first|omega|(simp only [zL,zM];omega))|refine altF ?_|refine all fun _=>?_|refine both ?_ ?_|(refine choT ?_ ?_;omega)|(refine choF ?_ ?_;omega)|refine cho (fun _=>?_) fun _=>?_)|(with_reducible refine fact ?_ ?_;first|trivial|exact ⟨rfl,rfl⟩|kernel_rfl))
  refine loopI (β := List UInt8 × UInt64 × Option Value) (fun x => l ++ put v.toNat = x.1 ++ put x.2.1.toNat ∧ x.1.length + (put x.2.1.toNat).length ≤ 1000000000010)
    (fun x => [match x.2.2 with | none => .lst 1 (x.1.map byt) .full | some y => .own y x.1.length, W64 x.2.1]) (fun x => match x.2.2 with | none => τ | some y => .row y 5 1 (x.1.map byt) 0 :: τ) (fun x => x.2.1.toNat) (l, v, none) ⟨rfl, by dsimp only; omega⟩ (Sub.refl _ _) ?_
  rintro ⟨a, w, y⟩ ⟨hw, ha⟩
  dsimp only at hw ha ⊢
  have hpw := put_len64 (lt64 w)
  cases y
  all_goals
    dsimp only
    repeat' (first|with_reducible (first|apply Stp.go|refine imp fun _=>?_|(refine need ?_ ?_;first|trivial|omega|exact ⟨by assumption,by omega⟩|(simp only [zL,zM];omega))|refine choT (by assumption) ?_|refine choF (by assumption) ?_|refine choF' (by assumption) ?_|(refine altT ?_ ?_;first|omega|(simp only [zL,zM];omega))|refine altF ?_|refine all fun _=>?_|refine both ?_ ?_|(refine choT ?_ ?_;omega)|(refine choF ?_ ?_;omega)|refine cho (fun _=>?_) fun _=>?_)|(with_reducible refine fact ?_ ?_;first|trivial|exact ⟨rfl,rfl⟩|kernel_rfl))
  all_goals
    rename_i h x
    first
    | (refine again (a ++ [UInt8.ofNat w.toNat ||| 128], w >>> UInt64.ofNat 7, some x) ?_ ⟨?_, ?_⟩ (Sub.refl _ _)
       · simp [Nat.shiftRight_eq_div_pow]; omega
       · rw [hw, put_w h]; simp
       · have := congrArg List.length (put_w h)
         simp only [List.length_cons, List.length_append, List.length_nil] at this ⊢
         omega)
    | (have e : l ++ put v.toNat = a ++ [UInt8.ofNat w.toNat] := by rw [hw, put_small (by omega)]
       rw [e]
       exact ⟨_, rfl, rfl⟩)
instance (priority := 1100) {a : AV} {l : List UInt8} {m : SM} {n : Nat} {τ : Store} [h : IsL a byt 1 l m] : EC Go.Proofs.Try.prog 83 [a, W64 (UInt64.ofNat n)] τ (n < 18446744073709551616 ∧ l.length ≤ 1000000000000) Value (fun y => .own y (l ++ put n).length) (fun y => .row y 5 1 ((l ++ put n).map byt) 0 :: τ) :=
  ⟨fun hl => by
    have := (codec_Put_ok l m (UInt64.ofNat n) hl.2 τ).subV (args := [a, W64 (UInt64.ofNat n)]) ⟨h.sub, SubVs.refl _⟩
    rw [u64_len hl.1] at this
    exact this⟩
def ref01_Put.mark : Mark := ⟨fun t => false, fun t => false, fun t => false, fun t => false, fun t => false⟩
def ref01_Put.ann : Ann := ⟨fun n => bif Nat.beq n 1 then [0, 1] else [], fun n => none, fun n => none⟩
/-- 'marlstone/marlstoneref01.Put' -/
def ref01_Put.sh (a0 a1 : AV) (σ : Store) (Q : AEnd → Store → Prop) : Prop :=
  aLoop (fun go vs σ =>
    At vs 0 fun s0 => At vs 1 fun s1 => Do (aBin Go.Proofs.Try.prog .geq 122 s1 (W64 128)) fun t6 =>
    aCond t6
      (Do (aBin Go.Proofs.Try.prog .rem 122 s1 (W64 128)) fun t9 =>
    Do (fun x => aConvN 122 5 t9 x Go.Proofs.Try.prog) fun t10 =>
    Do (aBin Go.Proofs.Try.prog .add 5 t10 (W8 128)) fun t11 =>
    Do (aSlLit (mkE [.val (.int .u8 0)]) 1 1 [(0, t11)]) fun t12 =>
    Do (aConvBS t12) fun t13 =>
    Do (aBin Go.Proofs.Try.prog .add 9 s0 t13) fun t14 =>
    Do (aBin Go.Proofs.Try.prog .quo 122 s1 (W64 128)) fun t16 =>
    go [t14, t16] σ)
      (Do (fun x => aConvN 122 5 s1 x Go.Proofs.Try.prog) fun t19 =>
  Do (aSlLit (mkE [.val (.int .u8 0)]) 1 1 [(0, t19)]) fun t20 =>
  Do (aConvBS t20) fun t21 =>
  Do (aBin Go.Proofs.Try.prog .add 9 s0 t21) fun t22 =>
  Q (.ret t22) σ))
    [a0, a1] σ
theorem ref01_Put.eq (a0 a1 : AV) (σ : Store) (Q : AEnd → Store → Prop) : vc (semOf Go.Proofs.Try.prog ref01_Put.mark) Go.Proofs.Try.f89.ntmps ref01_Put.ann (bodyOf Go.Proofs.Try.f89) (endK [.tmp 4] Q) (argFr [a0, a1]) σ = ref01_Put.sh a0 a1 σ Q := by kernel_rfl
theorem ref01_Put.go {a0 a1 : AV} {σ : Store} {Q : AEnd → Store → Prop} (h : ref01_Put.sh a0 a1 σ Q) : ACalls Go.Proofs.Try.prog 89 [a0, a1] σ Q :=
  acalls_of_eq [.tmp 4] Go.Proofs.Try.func89 (by kernel_rfl) (by kernel_rfl) (by kernel_rfl) (by kernel_rfl) (ref01_Put.eq a0 a1 σ Q) h
theorem ref01_Put_ok (l : List UInt8) (v : UInt64) (hl : l.length ≤ 1000000000000) : aPure Go.Proofs.Try.prog 89 [S l, W64 v] (S (l ++ put v.toNat)) := by
  refine ref01_Put.go ?_
  unfold ref01_Put.sh
  have hp := put_len64 (lt64 v)
  refine loopI (β := List UInt8 × UInt64) (fun x => l ++ put v.toNat = x.1 ++ put x.2.toNat ∧ x.1.length + (put x.2.toNat).length ≤ 1000000000010) (fun x => [S x.1, W64 x.2]) (fun _ => []) (fun x => x.2.toNat) (l, v) ⟨rfl, by dsimp only; omega⟩ (Sub.refl _ _) ?_
  rintro ⟨a, w⟩ ⟨hw, ha⟩
  dsimp only at hw ha ⊢
  have hpw := put_len64 (lt64 w)
  repeat' (first|with_reducible (first|apply Stp.go|refine imp fun _=>?_|(refine need ?_ ?_;first|trivial|omega|exact ⟨by assumption,by omega⟩|(simp only [zL,zM];omega))|refine choT (by assumption) ?_|refine choF (by assumption) ?_|refine choF' (by assumption) ?_|(refine altT ?_ ?_;first|omega|(simp only [zL,zM];omega))|refine altF ?_|refine all fun _=>?_|refine both ?_ ?_|(refine choT ?_ ?_;omega)|(refine choF ?_ ?_;omega)|refine cho (fun _=>?_) fun _=>?_)|(with_reducible refine fact ?_ ?_;first|trivial|exact ⟨rfl,rfl⟩|kernel_rfl))
  · rename_i h
    have h1 := put_more (v := w.toNat) (by omega)
    have h2 : (w / 128).toNat = w.toNat / 128 := by simp
    refine again (a ++ [UInt8.ofNat (w % 128).toNat + 128], w / 128) ?_ ⟨?_, ?_⟩ (Sub.refl _ _)
    · dsimp only; rw [h2]; omega
    · have e : UInt8.ofNat (w % 128).toNat + 128 = UInt8.ofNat (w.toNat % 128 + 128) := by
        rw [UInt64.toNat_mod]; apply UInt8.toNat.inj; simp
      rw [hw, h1, e, h2]; simp
    · have := congrArg List.length h1
      simp only [List.length_cons, List.length_append, List.length_nil, h2] at this ⊢
      omega
  · rw [hw, put_small (by omega)]
    exact ⟨rfl, rfl⟩
instance (priority := 1100) (l : List UInt8) (n : Nat) : PC Go.Proofs.Try.prog 89 [S l, W64 (UInt64.ofNat n)] (n < 18446744073709551616 ∧ l.length ≤ 1000000000000) (S (l ++ put n)) := ⟨fun h => by
  have := ref01_Put_ok l (UInt64.ofNat n) h.2
  rw [u64_len h.1] at this
  exact PC.of this⟩
def ref01_PutText.mark : Mark := ⟨fun t => Nat.beq t 9, fun t => false, fun t => false, fun t => false, fun t => false⟩
def ref01_PutText.ann : Ann := ⟨fun n => [], fun n => none, fun n => none⟩
/-- 'marlstone/marlstoneref01.PutText' -/
def ref01_PutText.sh (a0 a1 : AV) (σ : Store) (Q : AEnd → Store → Prop) : Prop :=
  Do (aBuiltin Go.Proofs.Try.prog .len #[9] [a1]) fun t7 =>
  Do (fun x => aConvN 3 122 t7 x Go.Proofs.Try.prog) fun t8 =>
  Do (aPureC Go.Proofs.Try.prog 89 [a0, t8]) fun t9 =>
  Do (aBin Go.Proofs.Try.prog .add 9 t9 a1) fun t11 =>
  Q (.ret t11) σ
theorem ref01_PutText.eq (a0 a1 : AV) (σ : Store) (Q : AEnd → Store → Prop) : vc (semOf Go.Proofs.Try.prog ref01_PutText.mark) Go.Proofs.Try.f88.ntmps ref01_PutText.ann (bodyOf Go.Proofs.Try.f88) (endK [.tmp 4] Q) (argFr [a0, a1]) σ = ref01_PutText.sh a0 a1 σ Q := by kernel_rfl
theorem ref01_PutText.go {a0 a1 : AV} {σ : Store} {Q : AEnd → Store → Prop} (h : ref01_PutText.sh a0 a1 σ Q) : ACalls Go.Proofs.Try.prog 88 [a0, a1] σ Q :=
  acalls_of_eq [.tmp 4] Go.Proofs.Try.func88 (by kernel_rfl) (by kernel_rfl) (by kernel_rfl) (by kernel_rfl) (ref01_PutText.eq a0 a1 σ Q) h
def codec_PutText.mark : Mark := ⟨fun t => false, fun t => false, fun t => false, fun t => false, fun t => false⟩
def codec_PutText.ann : Ann := ⟨fun n => [], fun n => none, fun n => none⟩
/-- 'marlstone/codec.PutText' -/
def codec_PutText.sh (a0 a1 : AV) (σ : Store) (Q : AEnd → Store → Prop) : Prop :=
  Do (aBuiltin Go.Proofs.Try.prog .len #[9] [a1]) fun t7 =>
  Do (fun x => aConvN 3 122 t7 x Go.Proofs.Try.prog) fun t8 =>
  aCall Go.Proofs.Try.prog 83 [a0, t8] σ (fun t9 σ =>
  aAppend 5 1 1 t9 a1 σ (subK fun t11 σ_1 =>
  Q (.ret t11) σ_1)) (fun e σ_2 => Q (.pan e) σ_2)
theorem codec_PutText.eq (a0 a1 : AV) (σ : Store) (Q : AEnd → Store → Prop) : vc (semOf Go.Proofs.Try.prog codec_PutText.mark) Go.Proofs.Try.f82.ntmps codec_PutText.ann (bodyOf Go.Proofs.Try.f82) (endK [.tmp 4] Q) (argFr [a0, a1]) σ = codec_PutText.sh a0 a1 σ Q := by kernel_rfl
theorem codec_PutText.go {a0 a1 : AV} {σ : Store} {Q : AEnd → Store → Prop} (h : codec_PutText.sh a0 a1 σ Q) : ACalls Go.Proofs.Try.prog 82 [a0, a1] σ Q :=
  acalls_of_eq [.tmp 4] Go.Proofs.Try.func82 (by kernel_rfl) (by kernel_rfl) (by kernel_rfl) (by kernel_rfl) (codec_PutText.eq a0 a1 σ Q) h
theorem ref01_PutText_ok (l s : List UInt8) (hl : l.length ≤ 1000000000000) (hs : s.length ≤ 1000000000000) : aPure Go.Proofs.Try.prog 88 [S l, S s] (S (l ++ (put s.length ++ s))) := by
  refine ref01_PutText.go ?_
  unfold ref01_PutText.sh
  have hp := put_len64 (v := s.length) (by omega)
  repeat' (first|with_reducible (first|apply Stp.go|refine imp fun _=>?_|(refine need ?_ ?_;first|trivial|omega|exact ⟨by assumption,by omega⟩|(simp only [zL,zM];omega))|refine choT (by assumption) ?_|refine choF (by assumption) ?_|refine choF' (by assumption) ?_|(refine altT ?_ ?_;first|omega|(simp only [zL,zM];omega))|refine altF ?_|refine all fun _=>?_|refine both ?_ ?_|(refine choT ?_ ?_;omega)|(refine choF ?_ ?_;omega)|refine cho (fun _=>?_) fun _=>?_)|(with_reducible refine fact ?_ ?_;first|trivial|exact ⟨rfl,rfl⟩|kernel_rfl))
  exact ⟨by simp, rfl⟩
theorem codec_PutText_ok (l s : List UInt8) (m : SM) (hl : l.length ≤ 1000000000000) (hs : s.length ≤ 1000000000000) (τ : Store) :
    ACalls Go.Proofs.Try.prog 82 [.lst 1 (l.map byt) m, S s] τ fun x σ' => ∃ y, x = .ret (.own y (l ++ (put s.length ++ s)).length) ∧ σ' = .row y 5 1 ((l ++ (put s.length ++ s)).map byt) 0 :: τ := by
  refine codec_PutText.go ?_
  unfold codec_PutText.sh
  have hp := put_len64 (v := s.length) (by omega)
  repeat' (first|with_reducible (first|apply Stp.go|refine imp fun _=>?_|(refine need ?_ ?_;first|trivial|omega|exact ⟨by assumption,by omega⟩|(simp only [zL,zM];omega))|refine choT (by assumption) ?_|refine choF (by assumption) ?_|refine choF' (by assumption) ?_|(refine altT ?_ ?_;first|omega|(simp only [zL,zM];omega))|refine altF ?_|refine all fun _=>?_|refine both ?_ ?_|(refine choT ?_ ?_;omega)|(refine choF ?_ ?_;omega)|refine cho (fun _=>?_) fun _=>?_)|(with_reducible refine fact ?_ ?_;first|trivial|exact ⟨rfl,rfl⟩|kernel_rfl))
  rw [List.append_assoc]
  exact ⟨_, rfl, rfl⟩
instance {a : AV} {l s : List UInt8} {m : SM} {τ : Store} [h : IsL a byt 1 l m] : EC Go.Proofs.Try.prog 82 [a, S s] τ (l.length ≤ 1000000000000 ∧ s.length ≤ 1000000000000) Value (fun y => .own y (l ++ (put s.length ++ s)).length) (fun y => .row y 5 1 ((l ++ (put s.length ++ s)).map byt) 0 :: τ) :=
  ⟨fun hl => (codec_PutText_ok l s m hl.1 hl.2 τ).subV ⟨h.sub, SubVs.refl _⟩⟩
end Go.Ab
