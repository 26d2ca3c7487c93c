/- The texts that this claim needs, part 5: a logic over abstract values, its steps, what the functions do. No condition of its own. -/
import Derived.Test.YtghihffhjpchpaaGreatProg
import Derived.Test.YtghihffhjpchpaaGreatMoveKeepsK4
/- Functions of layers 1, 3 and 4: what they do. -/
set_option linter.unusedVariables false
set_option linter.unusedSimpArgs false
namespace Go.Ab
instance : KindIs Go.Proofs.Tryz.prog 3 .i64 := ⟨by kernel_rfl⟩
instance : KindIs Go.Proofs.Tryz.prog 5 .u8 := ⟨by kernel_rfl⟩
instance : StrT Go.Proofs.Tryz.prog 9 := ⟨by kernel_rfl⟩
instance : SlT Go.Proofs.Tryz.prog 22 := ⟨by kernel_rfl⟩
instance : SlT Go.Proofs.Tryz.prog 23 := ⟨by kernel_rfl⟩
instance : SlT Go.Proofs.Tryz.prog 24 := ⟨by kernel_rfl⟩
instance : SlT Go.Proofs.Tryz.prog 33 := ⟨by kernel_rfl⟩
instance : EnT Go.Proofs.Tryz.prog 50 := ⟨by kernel_rfl⟩
instance : SlT Go.Proofs.Tryz.prog 63 := ⟨by kernel_rfl⟩
instance : SlT Go.Proofs.Tryz.prog 66 := ⟨by kernel_rfl⟩
instance : MapT Go.Proofs.Tryz.prog 82 .string (.agg #[(.string ⟨#[]⟩), (.string ⟨#[]⟩), (.bool false), (.int .i64 0)]) := ⟨by kernel_rfl⟩
instance : SlT Go.Proofs.Tryz.prog 102 := ⟨by kernel_rfl⟩
instance : SlT Go.Proofs.Tryz.prog 103 := ⟨by kernel_rfl⟩
instance : KindIs Go.Proofs.Tryz.prog 138 .u64 := ⟨by kernel_rfl⟩
instance : KindIs Go.Proofs.Tryz.prog 159 .u32 := ⟨by kernel_rfl⟩
def entry_Right.mark : Mark := ⟨fun t => false, fun t => false, fun t => Nat.beq t 1, fun t => Nat.beq t 4 || Nat.beq t 8 || Nat.beq t 14 || Nat.beq t 20 || Nat.beq t 23 || Nat.beq t 30 || Nat.beq t 35, fun t => false⟩
def entry_Right.ann : Ann := ⟨fun n => [], fun n => none, fun n => none⟩
/-- 'marlstone/entry.Right' -/
def entry_Right.sh (a0 : AV) (σ : Store) (Q : AEnd → Store → Prop) : Prop :=
  Do (aFreeze ((a0 : AV)).cells) fun t1 =>
  Do (aFieldAddr 0 1 t1) fun t3 =>
  Do (loadF false 1 t3) fun t4 =>
  Do (aBin Go.Proofs.Tryz.prog .neq 9 t4 (.val (.string ⟨#[]⟩))) fun t5 =>
  Do (aGuard t5 true (aFieldAddr 0 1 t1)) fun t7 =>
  Do (aGuard t5 true (loadF false 1 t7)) fun t8 =>
  Do (aGuard t5 true (aBuiltin Go.Proofs.Tryz.prog .len #[9] [t8])) fun t9 =>
  Do (aGuard t5 true (aBin Go.Proofs.Tryz.prog .leq 3 t9 (.val (.int .i64 128)))) fun t10 =>
  Do (aPick t5 t10 (.val (.bool false))) fun t11 =>
  Do (aGuard t11 true (aFieldAddr 1 1 t1)) fun t13 =>
  Do (aGuard t11 true (loadF false 1 t13)) fun t14 =>
  Do (aGuard t11 true (aBuiltin Go.Proofs.Tryz.prog .len #[9] [t14])) fun t15 =>
  Do (aGuard t11 true (aBin Go.Proofs.Tryz.prog .leq 3 t15 (.val (.int .i64 1024)))) fun t16 =>
  Do (aPick t11 t16 (.val (.bool false))) fun t17 =>
  Do (aGuard t17 true (aFieldAddr 2 1 t1)) fun t19 =>
  Do (aGuard t17 true (loadF false 1 t19)) fun t20 =>
  Do (aGuard t17 true (aIs t20)) fun t21 =>
  Do (aGuard t21 true (aFieldAddr 1 1 t1)) fun t22 =>
  Do (aGuard t21 true (loadF false 1 t22)) fun t23 =>
  Do (aGuard t21 true (aBin Go.Proofs.Tryz.prog .neq 9 t23 (.val (.string ⟨#[]⟩)))) fun t24 =>
  Do (aGuard t17 true (aPick t21 t24 (.val (.bool false)))) fun t25 =>
  Do (aGuard t17 true (aUn Go.Proofs.Tryz.prog .not t25)) fun t26 =>
  Do (aPick t17 t26 (.val (.bool false))) fun t27 =>
  Do (aGuard t27 true (aFieldAddr 3 1 t1)) fun t29 =>
  Do (aGuard t27 true (loadF false 1 t29)) fun t30 =>
  Do (aGuard t27 true (aBin Go.Proofs.Tryz.prog .geq 3 t30 (.val (.int .i64 1)))) fun t31 =>
  Do (aPick t27 t31 (.val (.bool false))) fun t32 =>
  Do (aGuard t32 true (aFieldAddr 3 1 t1)) fun t34 =>
  Do (aGuard t32 true (loadF false 1 t34)) fun t35 =>
  Do (aGuard t32 true (aBin Go.Proofs.Tryz.prog .leq 3 t35 (.val (.int .i64 1099511627776)))) fun t36 =>
  Do (aPick t32 t36 (.val (.bool false))) fun t37 =>
  Q (.ret t37) σ
theorem entry_Right.eq (a0 : AV) (σ : Store) (Q : AEnd → Store → Prop) : vc (semOf Go.Proofs.Tryz.prog entry_Right.mark) Go.Proofs.Tryz.f46.ntmps entry_Right.ann (bodyOf Go.Proofs.Tryz.f46) (endK [.tmp 2] Q) (argFr [a0]) σ = entry_Right.sh a0 σ Q := by kernel_rfl
theorem entry_Right.go {a0 : AV} {σ : Store} {Q : AEnd → Store → Prop} (h : entry_Right.sh a0 σ Q) : ACalls Go.Proofs.Tryz.prog 46 [a0] σ Q :=
  acalls_of_eq [.tmp 2] Go.Proofs.Tryz.func46 (by kernel_rfl) (by kernel_rfl) (by kernel_rfl) (by kernel_rfl) (entry_Right.eq a0 σ Q) h
theorem entry_Right_ok (e : En) : aPure Go.Proofs.Tryz.prog 46 [e.av] (B (right e)) := by
  refine entry_Right.go ?_
  unfold entry_Right.sh
  repeat' (first|with_reducible (first|apply Stp.go|refine imp fun _=>?_|(refine need ?_ ?_;first|trivial|omega|exact ⟨by assumption,by omega⟩|(simp only [zL,zM];omega))|refine choT (by assumption) ?_|refine choF (by assumption) ?_|refine choF' (by assumption) ?_|(refine altT ?_ ?_;first|omega|(simp only [zL,zM];omega))|refine altF ?_|refine all fun _=>?_|refine both ?_ ?_|(refine choT ?_ ?_;omega)|(refine choF ?_ ?_;omega)|refine cho (fun _=>?_) fun _=>?_)|(with_reducible refine fact ?_ ?_;first|trivial|exact ⟨rfl,rfl⟩|kernel_rfl))
  all_goals (refine ⟨?_, by first | rfl | trivial⟩; simp_all [right] <;> omega)
instance (e : En) : PC Go.Proofs.Tryz.prog 46 [e.av] True (B (right e)) := ⟨fun _ => PC.of (entry_Right_ok e)⟩

def codec_Put.mark : Mark := ⟨fun t => false, fun t => false, fun t => false, fun t => false, fun t => false⟩
def codec_Put.ann : Ann := ⟨fun n => bif Nat.beq n 2 then [0, 1] else [], fun n => none, fun n => none⟩
/-- 'marlstone/codec.Put' -/
def codec_Put.sh (a0 a1 : AV) (σ : Store) (Q : AEnd → Store → Prop) : Prop :=
  Do (aBuiltin Go.Proofs.Tryz.prog .len #[63] [a0]) fun t7 =>
  Do (aBuiltin Go.Proofs.Tryz.prog .len #[63] [a0]) fun t9 =>
  Do (aSlice .slice 1 a0 none (some t7) (some t9)) fun t10 =>
  aLoop (fun go vs σ =>
    At vs 0 fun s0 => At vs 1 fun s1 => Do (aBin Go.Proofs.Tryz.prog .geq 138 s1 (W64 128)) fun t12 =>
    aCond t12
      (Do (fun x => aConvN 138 5 s1 x Go.Proofs.Tryz.prog) fun t17 =>
    Do (aBin Go.Proofs.Tryz.prog .or 5 t17 (W8 128)) fun t18 =>
    Do (aSlLit (mkE [.val (.int .u8 0)]) 1 1 [(0, t18)]) fun t19 =>
    aAppend 5 1 1 s0 t19 σ (subK fun t20 σ_1 =>
    Do (aBin Go.Proofs.Tryz.prog .shr 138 s1 (W64 7)) fun t14 =>
    go [t20, t14] σ_1))
      (Do (fun x => aConvN 138 5 s1 x Go.Proofs.Tryz.prog) fun t23 =>
  Do (aSlLit (mkE [.val (.int .u8 0)]) 1 1 [(0, t23)]) fun t24 =>
  aAppend 5 1 1 s0 t24 σ (subK fun t25 σ_2 =>
  Q (.ret t25) σ_2)))
    [t10, a1] σ
theorem codec_Put.eq (a0 a1 : AV) (σ : Store) (Q : AEnd → Store → Prop) : vc (semOf Go.Proofs.Tryz.prog codec_Put.mark) Go.Proofs.Tryz.f102.ntmps codec_Put.ann (bodyOf Go.Proofs.Tryz.f102) (endK [.tmp 4] Q) (argFr [a0, a1]) σ = codec_Put.sh a0 a1 σ Q := by kernel_rfl
theorem codec_Put.go {a0 a1 : AV} {σ : Store} {Q : AEnd → Store → Prop} (h : codec_Put.sh a0 a1 σ Q) : ACalls Go.Proofs.Tryz.prog 102 [a0, a1] σ Q :=
  acalls_of_eq [.tmp 4] Go.Proofs.Tryz.func102 (by kernel_rfl) (by kernel_rfl) (by kernel_rfl) (by kernel_rfl) (codec_Put.eq a0 a1 σ Q) h
theorem u64_len {n : Nat} (h : n < 18446744073709551616) : (UInt64.ofNat n).toNat = n := by simp [UInt64.toNat_ofNat', Nat.mod_eq_of_lt h]
theorem put_w {w : UInt64} (h : 128 ≤ w.toNat) : put w.toNat = (UInt8.ofNat w.toNat ||| 128) :: put (w >>> UInt64.ofNat 7).toNat := by
  rw [put_more (by omega)]
  have e1 : (w >>> UInt64.ofNat 7).toNat = w.toNat / 128 := by simp [Nat.shiftRight_eq_div_pow]
  have e2 : UInt8.ofNat w.toNat ||| 128 = UInt8.ofNat (w.toNat % 128 + 128) := by
    apply UInt8.toNat.inj
    have := or_128 w.toNat
    rw [UInt8.toNat_or, UInt8.toNat_ofNat']
    show w.toNat % 256 ||| 128 = _
    rw [this]
    simp
    omega
  rw [e1, e2]
theorem codec_Put_ok (l : List UInt8) (m : SM) (v : UInt64) (hl : l.length ≤ 1000000000000) (τ : Store) :
    ACalls Go.Proofs.Tryz.prog 102 [.lst 1 (l.map byt) m, W64 v] τ fun x σ' => ∃ y, x = .ret (.own y (l ++ put v.toNat).length) ∧ σ' = .row y 5 1 ((l ++ put v.toNat).map byt) 0 :: τ := by
  refine codec_Put.go ?_
  unfold codec_Put.sh
  have hp := put_len64 (lt64 v)
  repeat' (first|with_reducible (first|apply Stp.go|refine imp fun _=>?_|(refine need ?_ ?_;first|trivial|omega|exact ⟨by assumption,by omega⟩|(simp only [zL,zM];omega))|refine choT (by assumption) ?_|refine choF (by assumption) ?_|refine choF' (by assumption) ?_|(refine altT ?_ ?_;first|omega|(simp only [zL,zM];omega))|refine altF ?_|refine all fun _=>?_|refine both ?_ ?_|(refine choT ?_ ?_;omega)|(refine choF ?_ ?_;omega)|refine cho (fun _=>?_) fun _=>?_)|(with_reducible refine fact ?_ ?_;first|trivial|exact ⟨rfl,rfl⟩|kernel_rfl))
  refine loopI (β := List UInt8 × UInt64 × Option Value) (fun x => l ++ put v.toNat = x.1 ++ put x.2.1.toNat ∧ x.1.length + (put x.2.1.toNat).length ≤ 1000000000010)
    (fun x => [match x.2.2 with | none => .lst 1 (x.1.map byt) .full | some y => .own y x.1.length, W64 x.2.1]) (fun x => match x.2.2 with | none => τ | some y => .row y 5 1 (x.1.map byt) 0 :: τ) (fun x => x.2.1.toNat) (l, v, none) ⟨rfl, by dsimp only; omega⟩ (Sub.refl _ _) ?_
  rintro ⟨a, w, y⟩ ⟨hw, ha⟩
  dsimp only at hw ha ⊢
  have hpw := put_len64 (lt64 w)
  cases y
  all_goals
    dsimp only
    repeat' (first|with_reducible (first|apply Stp.go|refine imp fun _=>?_|(refine need ?_ ?_;first|trivial|omega|exact ⟨by assumption,by omega⟩|(simp only [zL,zM];omega))|refine choT (by assumption) ?_|refine choF (by assumption) ?_|refine choF' (by assumption) ?_|(refine altT ?_ ?_;first|omega|(simp only [zL,zM];omega))|refine altF ?_|refine all fun _=>?_|refine both ?_ ?_|(refine choT ?_ ?_;omega)|(refine choF ?_ ?_;omega)|refine cho (fun _=>?_) fun _=>?_)|(with_reducible refine fact ?_ ?_;first|trivial|exact ⟨rfl,rfl⟩|kernel_rfl))
  all_goals
    rename_i h x
    first
    | (refine again (a ++ [UInt8.ofNat w.toNat ||| 128], w >>> UInt64.ofNat 7, some x) ?_ ⟨?_, ?_⟩ (Sub.refl _ _)
       · simp [Nat.shiftRight_eq_div_pow]; omega
       · rw [hw, put_w h]; simp
       · have := congrArg List.length (put_w h)
         simp only [List.length_cons, List.length_append, List.length_nil] at this ⊢
         omega)
    | (have e : l ++ put v.toNat = a ++ [UInt8.ofNat w.toNat] := by rw [hw, put_small (by omega)]
       rw [e]
       exact ⟨_, rfl, rfl⟩)
instance (priority := 1100) {a : AV} {l : List UInt8} {m : SM} {n : Nat} {τ : Store} [h : IsL a byt 1 l m] : EC Go.Proofs.Tryz.prog 102 [a, W64 (UInt64.ofNat n)] τ (n < 18446744073709551616 ∧ l.length ≤ 1000000000000) Value (fun y => .own y (l ++ put n).length) (fun y => .row y 5 1 ((l ++ put n).map byt) 0 :: τ) :=
  ⟨fun hl => by
    have := (codec_Put_ok l m (UInt64.ofNat n) hl.2 τ).subV (args := [a, W64 (UInt64.ofNat n)]) ⟨h.sub, SubVs.refl _⟩
    rw [u64_len hl.1] at this
    exact this⟩
def ref01_Put.mark : Mark := ⟨fun t => false, fun t => false, fun t => false, fun t => false, fun t => false⟩
def ref01_Put.ann : Ann := ⟨fun n => bif Nat.beq n 1 then [0, 1] else [], fun n => none, fun n => none⟩
/-- 'marlstone/marlstoneref01.Put' -/
def ref01_Put.sh (a0 a1 : AV) (σ : Store) (Q : AEnd → Store → Prop) : Prop :=
  aLoop (fun go vs σ =>
    At vs 0 fun s0 => At vs 1 fun s1 => Do (aBin Go.Proofs.Tryz.prog .geq 138 s1 (W64 128)) fun t6 =>
    aCond t6
      (Do (aBin Go.Proofs.Tryz.prog .rem 138 s1 (W64 128)) fun t9 =>
    Do (fun x => aConvN 138 5 t9 x Go.Proofs.Tryz.prog) fun t10 =>
    Do (aBin Go.Proofs.Tryz.prog .add 5 t10 (W8 128)) fun t11 =>
    Do (aSlLit (mkE [.val (.int .u8 0)]) 1 1 [(0, t11)]) fun t12 =>
    Do (aConvBS t12) fun t13 =>
    Do (aBin Go.Proofs.Tryz.prog .add 9 s0 t13) fun t14 =>
    Do (aBin Go.Proofs.Tryz.prog .quo 138 s1 (W64 128)) fun t16 =>
    go [t14, t16] σ)
      (Do (fun x => aConvN 138 5 s1 x Go.Proofs.Tryz.prog) fun t19 =>
  Do (aSlLit (mkE [.val (.int .u8 0)]) 1 1 [(0, t19)]) fun t20 =>
  Do (aConvBS t20) fun t21 =>
  Do (aBin Go.Proofs.Tryz.prog .add 9 s0 t21) fun t22 =>
  Q (.ret t22) σ))
    [a0, a1] σ
theorem ref01_Put.eq (a0 a1 : AV) (σ : Store) (Q : AEnd → Store → Prop) : vc (semOf Go.Proofs.Tryz.prog ref01_Put.mark) Go.Proofs.Tryz.f137.ntmps ref01_Put.ann (bodyOf Go.Proofs.Tryz.f137) (endK [.tmp 4] Q) (argFr [a0, a1]) σ = ref01_Put.sh a0 a1 σ Q := by kernel_rfl
theorem ref01_Put.go {a0 a1 : AV} {σ : Store} {Q : AEnd → Store → Prop} (h : ref01_Put.sh a0 a1 σ Q) : ACalls Go.Proofs.Tryz.prog 137 [a0, a1] σ Q :=
  acalls_of_eq [.tmp 4] Go.Proofs.Tryz.func137 (by kernel_rfl) (by kernel_rfl) (by kernel_rfl) (by kernel_rfl) (ref01_Put.eq a0 a1 σ Q) h
theorem ref01_Put_ok (l : List UInt8) (v : UInt64) (hl : l.length ≤ 1000000000000) : aPure Go.Proofs.Tryz.prog 137 [S l, W64 v] (S (l ++ put v.toNat)) := by
  refine ref01_Put.go ?_
  unfold ref01_Put.sh
  have hp := put_len64 (lt64 v)
  refine loopI (β := List UInt8 × UInt64) (fun x => l ++ put v.toNat = x.1 ++ put x.2.toNat ∧ x.1.length + (put x.2.toNat).length ≤ 1000000000010) (fun x => [S x.1, W64 x.2]) (fun _ => []) (fun x => x.2.toNat) (l, v) ⟨rfl, by dsimp only; omega⟩ (Sub.refl _ _) ?_
  rintro ⟨a, w⟩ ⟨hw, ha⟩
  dsimp only at hw ha ⊢
  have hpw := put_len64 (lt64 w)
  repeat' (first|with_reducible (first|apply Stp.go|refine imp fun _=>?_|(refine need ?_ ?_;first|trivial|omega|exact ⟨by assumption,by omega⟩|(simp only [zL,zM];omega))|refine choT (by assumption) ?_|refine choF (by assumption) ?_|refine choF' (by assumption) ?_|(refine altT ?_ ?_;first|omega|(simp only [zL,zM];omega))|refine altF ?_|refine all fun _=>?_|refine both ?_ ?_|(refine choT ?_ ?_;omega)|(refine choF ?_ ?_;omega)|refine cho (fun _=>?_) fun _=>?_)|(with_reducible refine fact ?_ ?_;first|trivial|exact ⟨rfl,rfl⟩|kernel_rfl))
  · rename_i h
    have h1 := put_more (v := w.toNat) (by omega)
    have h2 : (w / 128).toNat = w.toNat / 128 := by simp
    refine again (a ++ [UInt8.ofNat (w % 128).toNat + 128], w / 128) ?_ ⟨?_, ?_⟩ (Sub.refl _ _)
    · dsimp only; rw [h2]; omega
    · have e : UInt8.ofNat (w % 128).toNat + 128 = UInt8.ofNat (w.toNat % 128 + 128) := by
        rw [UInt64.toNat_mod]; apply UInt8.toNat.inj; simp
      rw [hw, h1, e, h2]; simp
    · have := congrArg List.length h1
      simp only [List.length_cons, List.length_append, List.length_nil, h2] at this ⊢
      omega
  · rw [hw, put_small (by omega)]
    exact ⟨rfl, rfl⟩
instance (priority := 1100) (l : List UInt8) (n : Nat) : PC Go.Proofs.Tryz.prog 137 [S l, W64 (UInt64.ofNat n)] (n < 18446744073709551616 ∧ l.length ≤ 1000000000000) (S (l ++ put n)) := ⟨fun h => by
  have := ref01_Put_ok l (UInt64.ofNat n) h.2
  rw [u64_len h.1] at this
  exact PC.of this⟩
def ref01_PutText.mark : Mark := ⟨fun t => Nat.beq t 9, fun t => false, fun t => false, fun t => false, fun t => false⟩
def ref01_PutText.ann : Ann := ⟨fun n => [], fun n => none, fun n => none⟩
/-- 'marlstone/marlstoneref01.PutText' -/
def ref01_PutText.sh (a0 a1 : AV) (σ : Store) (Q : AEnd → Store → Prop) : Prop :=
  Do (aBuiltin Go.Proofs.Tryz.prog .len #[9] [a1]) fun t7 =>
  Do (fun x => aConvN 3 138 t7 x Go.Proofs.Tryz.prog) fun t8 =>
  Do (aPureC Go.Proofs.Tryz.prog 137 [a0, t8]) fun t9 =>
  Do (aBin Go.Proofs.Tryz.prog .add 9 t9 a1) fun t11 =>
  Q (.ret t11) σ
theorem ref01_PutText.eq (a0 a1 : AV) (σ : Store) (Q : AEnd → Store → Prop) : vc (semOf Go.Proofs.Tryz.prog ref01_PutText.mark) Go.Proofs.Tryz.f136.ntmps ref01_PutText.ann (bodyOf Go.Proofs.Tryz.f136) (endK [.tmp 4] Q) (argFr [a0, a1]) σ = ref01_PutText.sh a0 a1 σ Q := by kernel_rfl
theorem ref01_PutText.go {a0 a1 : AV} {σ : Store} {Q : AEnd → Store → Prop} (h : ref01_PutText.sh a0 a1 σ Q) : ACalls Go.Proofs.Tryz.prog 136 [a0, a1] σ Q :=
  acalls_of_eq [.tmp 4] Go.Proofs.Tryz.func136 (by kernel_rfl) (by kernel_rfl) (by kernel_rfl) (by kernel_rfl) (ref01_PutText.eq a0 a1 σ Q) h
def codec_PutText.mark : Mark := ⟨fun t => false, fun t => false, fun t => false, fun t => false, fun t => false⟩
def codec_PutText.ann : Ann := ⟨fun n => [], fun n => none, fun n => none⟩
/-- 'marlstone/codec.PutText' -/
def codec_PutText.sh (a0 a1 : AV) (σ : Store) (Q : AEnd → Store → Prop) : Prop :=
  Do (aBuiltin Go.Proofs.Tryz.prog .len #[9] [a1]) fun t7 =>
  Do (fun x => aConvN 3 138 t7 x Go.Proofs.Tryz.prog) fun t8 =>
  aCall Go.Proofs.Tryz.prog 102 [a0, t8] σ (fun t9 σ =>
  aAppend 5 1 1 t9 a1 σ (subK fun t11 σ_1 =>
  Q (.ret t11) σ_1)) (fun e σ_2 => Q (.pan e) σ_2)
theorem codec_PutText.eq (a0 a1 : AV) (σ : Store) (Q : AEnd → Store → Prop) : vc (semOf Go.Proofs.Tryz.prog codec_PutText.mark) Go.Proofs.Tryz.f101.ntmps codec_PutText.ann (bodyOf Go.Proofs.Tryz.f101) (endK [.tmp 4] Q) (argFr [a0, a1]) σ = codec_PutText.sh a0 a1 σ Q := by kernel_rfl
theorem codec_PutText.go {a0 a1 : AV} {σ : Store} {Q : AEnd → Store → Prop} (h : codec_PutText.sh a0 a1 σ Q) : ACalls Go.Proofs.Tryz.prog 101 [a0, a1] σ Q :=
  acalls_of_eq [.tmp 4] Go.Proofs.Tryz.func101 (by kernel_rfl) (by kernel_rfl) (by kernel_rfl) (by kernel_rfl) (codec_PutText.eq a0 a1 σ Q) h
theorem ref01_PutText_ok (l s : List UInt8) (hl : l.length ≤ 1000000000000) (hs : s.length ≤ 1000000000000) : aPure Go.Proofs.Tryz.prog 136 [S l, S s] (S (l ++ (put s.length ++ s))) := by
  refine ref01_PutText.go ?_
  unfold ref01_PutText.sh
  have hp := put_len64 (v := s.length) (by omega)
  repeat' (first|with_reducible (first|apply Stp.go|refine imp fun _=>?_|(refine need ?_ ?_;first|trivial|omega|exact ⟨by assumption,by omega⟩|(simp only [zL,zM];omega))|refine choT (by assumption) ?_|refine choF (by assumption) ?_|refine choF' (by assumption) ?_|(refine altT ?_ ?_;first|omega|(simp only [zL,zM];omega))|refine altF ?_|refine all fun _=>?_|refine both ?_ ?_|(refine choT ?_ ?_;omega)|(refine choF ?_ ?_;omega)|refine cho (fun _=>?_) fun _=>?_)|(with_reducible refine fact ?_ ?_;first|trivial|exact ⟨rfl,rfl⟩|kernel_rfl))
  exact ⟨by simp, rfl⟩
theorem codec_PutText_ok (l s : List UInt8) (m : SM) (hl : l.length ≤ 1000000000000) (hs : s.length ≤ 1000000000000) (τ : Store) :
    ACalls Go.Proofs.Tryz.prog 101 [.lst 1 (l.map byt) m, S s] τ fun x σ' => ∃ y, x = .ret (.own y (l ++ (put s.length ++ s)).length) ∧ σ' = .row y 5 1 ((l ++ (put s.length ++ s)).map byt) 0 :: τ := by
  refine codec_PutText.go ?_
  unfold codec_PutText.sh
  have hp := put_len64 (v := s.length) (by omega)
  repeat' (first|with_reducible (first|apply Stp.go|refine imp fun _=>?_|(refine need ?_ ?_;first|trivial|omega|exact ⟨by assumption,by omega⟩|(simp only [zL,zM];omega))|refine choT (by assumption) ?_|refine choF (by assumption) ?_|refine choF' (by assumption) ?_|(refine altT ?_ ?_;first|omega|(simp only [zL,zM];omega))|refine altF ?_|refine all fun _=>?_|refine both ?_ ?_|(refine choT ?_ ?_;omega)|(refine choF ?_ ?_;omega)|refine cho (fun _=>?_) fun _=>?_)|(with_reducible refine fact ?_ ?_;first|trivial|exact ⟨rfl,rfl⟩|kernel_rfl))
  rw [List.append_assoc]
  exact ⟨_, rfl, rfl⟩
instance {a : AV} {l s : List UInt8} {m : SM} {τ : Store} [h : IsL a byt 1 l m] : EC Go.Proofs.Tryz.prog 101 [a, S s] τ (l.length ≤ 1000000000000 ∧ s.length ≤ 1000000000000) Value (fun y => .own y (l ++ (put s.length ++ s)).length) (fun y => .row y 5 1 ((l ++ (put s.length ++ s)).map byt) 0 :: τ) :=
  ⟨fun hl => (codec_PutText_ok l s m hl.1 hl.2 τ).subV ⟨h.sub, SubVs.refl _⟩⟩
end Go.Ab

/- Functions of layers 1, 3 and 4: bytes of numbers, what keys share, their order, what is right and fit. -/
set_option linter.unusedVariables false
set_option linter.unusedSimpArgs false
namespace Go.Ab
def cmp_isNaN.mark : Mark := ⟨fun t => false, fun t => false, fun t => false, fun t => false, fun t => false⟩
def cmp_isNaN.ann : Ann := ⟨fun n => [], fun n => none, fun n => none⟩
/-- 'cmp.isNaN[string]' -/
def cmp_isNaN.sh (a0 : AV) (σ : Store) (Q : AEnd → Store → Prop) : Prop :=
  Do (aBin Go.Proofs.Tryz.prog .neq 9 a0 a0) fun t5 =>
  Q (.ret t5) σ
theorem cmp_isNaN.eq (a0 : AV) (σ : Store) (Q : AEnd → Store → Prop) : vc (semOf Go.Proofs.Tryz.prog cmp_isNaN.mark) Go.Proofs.Tryz.f139.ntmps cmp_isNaN.ann (bodyOf Go.Proofs.Tryz.f139) (endK [.tmp 2] Q) (argFr [a0]) σ = cmp_isNaN.sh a0 σ Q := by kernel_rfl
theorem cmp_isNaN.go {a0 : AV} {σ : Store} {Q : AEnd → Store → Prop} (h : cmp_isNaN.sh a0 σ Q) : ACalls Go.Proofs.Tryz.prog 139 [a0] σ Q :=
  acalls_of_eq [.tmp 2] Go.Proofs.Tryz.func139 (by kernel_rfl) (by kernel_rfl) (by kernel_rfl) (by kernel_rfl) (cmp_isNaN.eq a0 σ Q) h
def cmp_Compare.mark : Mark := ⟨fun t => Nat.beq t 8 || Nat.beq t 10, fun t => false, fun t => false, fun t => false, fun t => false⟩
def cmp_Compare.ann : Ann := ⟨fun n => [], fun n => none, fun n => none⟩
/-- 'cmp.Compare[string]' -/
def cmp_Compare.sh (a0 a1 : AV) (σ : Store) (Q : AEnd → Store → Prop) : Prop :=
  Do (aPureC Go.Proofs.Tryz.prog 139 [a0]) fun t8 =>
  Do (aPureC Go.Proofs.Tryz.prog 139 [a1]) fun t10 =>
  aCond t8
    (aCond t10
      (Q (.ret (.val (.int .i64 0))) σ)
      (Q (.ret (.val (.int .i64 (-1)))) σ))
    (aCond t10
    (Q (.ret (.val (.int .i64 1))) σ)
    (Do (aBin Go.Proofs.Tryz.prog .lss 9 a0 a1) fun t16 =>
  aCond t16
    (Q (.ret (.val (.int .i64 (-1)))) σ)
    (Do (aBin Go.Proofs.Tryz.prog .gtr 9 a0 a1) fun t19 =>
  aCond t19
    (Q (.ret (.val (.int .i64 1))) σ)
    (Q (.ret (.val (.int .i64 0))) σ))))
theorem cmp_Compare.eq (a0 a1 : AV) (σ : Store) (Q : AEnd → Store → Prop) : vc (semOf Go.Proofs.Tryz.prog cmp_Compare.mark) Go.Proofs.Tryz.f114.ntmps cmp_Compare.ann (bodyOf Go.Proofs.Tryz.f114) (endK [.tmp 4] Q) (argFr [a0, a1]) σ = cmp_Compare.sh a0 a1 σ Q := by kernel_rfl
theorem cmp_Compare.go {a0 a1 : AV} {σ : Store} {Q : AEnd → Store → Prop} (h : cmp_Compare.sh a0 a1 σ Q) : ACalls Go.Proofs.Tryz.prog 114 [a0, a1] σ Q :=
  acalls_of_eq [.tmp 4] Go.Proofs.Tryz.func114 (by kernel_rfl) (by kernel_rfl) (by kernel_rfl) (by kernel_rfl) (cmp_Compare.eq a0 a1 σ Q) h
def entry_byKey.mark : Mark := ⟨fun t => Nat.beq t 9, fun t => false, fun t => Nat.beq t 2 || Nat.beq t 3, fun t => Nat.beq t 6 || Nat.beq t 8, fun t => false⟩
def entry_byKey.ann : Ann := ⟨fun n => [], fun n => none, fun n => none⟩
/-- 'marlstone/entry.byKey' -/
def entry_byKey.sh (a0 a1 : AV) (σ : Store) (Q : AEnd → Store → Prop) : Prop :=
  Do (aFreeze ((a0 : AV)).cells) fun t2 =>
  Do (aFreeze ((a1 : AV)).cells) fun t3 =>
  Do (aFieldAddr 0 1 t2) fun t5 =>
  Do (loadF false 1 t5) fun t6 =>
  Do (aFieldAddr 0 1 t3) fun t7 =>
  Do (loadF false 1 t7) fun t8 =>
  Do (aPureC Go.Proofs.Tryz.prog 114 [t6, t8]) fun t9 =>
  Q (.ret t9) σ
theorem entry_byKey.eq (a0 a1 : AV) (σ : Store) (Q : AEnd → Store → Prop) : vc (semOf Go.Proofs.Tryz.prog entry_byKey.mark) Go.Proofs.Tryz.f80.ntmps entry_byKey.ann (bodyOf Go.Proofs.Tryz.f80) (endK [.tmp 4] Q) (argFr [a0, a1]) σ = entry_byKey.sh a0 a1 σ Q := by kernel_rfl
theorem entry_byKey.go {a0 a1 : AV} {σ : Store} {Q : AEnd → Store → Prop} (h : entry_byKey.sh a0 a1 σ Q) : ACalls Go.Proofs.Tryz.prog 80 [a0, a1] σ Q :=
  acalls_of_eq [.tmp 4] Go.Proofs.Tryz.func80 (by kernel_rfl) (by kernel_rfl) (by kernel_rfl) (by kernel_rfl) (entry_byKey.eq a0 a1 σ Q) h
theorem isNaN_ok (a : List UInt8) : aPure Go.Proofs.Tryz.prog 139 [S a] (B false) := by
  refine cmp_isNaN.go ?_
  unfold cmp_isNaN.sh
  repeat' (first|with_reducible (first|apply Stp.go|refine imp fun _=>?_|(refine need ?_ ?_;first|trivial|omega|exact ⟨by assumption,by omega⟩|(simp only [zL,zM];omega))|refine choT (by assumption) ?_|refine choF (by assumption) ?_|refine choF' (by assumption) ?_|(refine altT ?_ ?_;first|omega|(simp only [zL,zM];omega))|refine altF ?_|refine all fun _=>?_|refine both ?_ ?_|(refine choT ?_ ?_;omega)|(refine choF ?_ ?_;omega)|refine cho (fun _=>?_) fun _=>?_)|(with_reducible refine fact ?_ ?_;first|trivial|exact ⟨rfl,rfl⟩|kernel_rfl))
  simp
instance (a : List UInt8) : PC Go.Proofs.Tryz.prog 139 [S a] True (B false) := ⟨fun _ => PC.of (isNaN_ok a)⟩
theorem Compare_ok (a b : List UInt8) : aPure Go.Proofs.Tryz.prog 114 [S a, S b] (I .i64 (cmpK a b)) := by
  refine cmp_Compare.go ?_
  unfold cmp_Compare.sh
  repeat' (first|with_reducible (first|apply Stp.go|refine imp fun _=>?_|(refine need ?_ ?_;first|trivial|omega|exact ⟨by assumption,by omega⟩|(simp only [zL,zM];omega))|refine choT (by assumption) ?_|refine choF (by assumption) ?_|refine choF' (by assumption) ?_|(refine altT ?_ ?_;first|omega|(simp only [zL,zM];omega))|refine altF ?_|refine all fun _=>?_|refine both ?_ ?_|(refine choT ?_ ?_;omega)|(refine choF ?_ ?_;omega)|refine cho (fun _=>?_) fun _=>?_)|(with_reducible refine fact ?_ ?_;first|trivial|exact ⟨rfl,rfl⟩|kernel_rfl))
  all_goals (refine ⟨?_, by first | rfl | trivial⟩; simp_all [cmpK])
instance (a b : List UInt8) : PC Go.Proofs.Tryz.prog 114 [S a, S b] True (I .i64 (cmpK a b)) := ⟨fun _ => PC.of (Compare_ok a b)⟩
theorem byKey_ok (a b : En) : aPure Go.Proofs.Tryz.prog 80 [a.av, b.av] (I .i64 (cmpK a.key b.key)) := by
  refine entry_byKey.go ?_
  unfold entry_byKey.sh
  repeat' (first|with_reducible (first|apply Stp.go|refine imp fun _=>?_|(refine need ?_ ?_;first|trivial|omega|exact ⟨by assumption,by omega⟩|(simp only [zL,zM];omega))|refine choT (by assumption) ?_|refine choF (by assumption) ?_|refine choF' (by assumption) ?_|(refine altT ?_ ?_;first|omega|(simp only [zL,zM];omega))|refine altF ?_|refine all fun _=>?_|refine both ?_ ?_|(refine choT ?_ ?_;omega)|(refine choF ?_ ?_;omega)|refine cho (fun _=>?_) fun _=>?_)|(with_reducible refine fact ?_ ?_;first|trivial|exact ⟨rfl,rfl⟩|kernel_rfl))
  exact ⟨rfl, rfl⟩
instance (a b : En) : PC Go.Proofs.Tryz.prog 80 [a.av, b.av] True (I .i64 (cmpK a.key b.key)) := ⟨fun _ => PC.of (byKey_ok a b)⟩
def entry_Sorted.mark : Mark := ⟨fun t => Nat.beq t 23, fun t => false, fun t => false, fun t => Nat.beq t 17 || Nat.beq t 22, fun t => false⟩
def entry_Sorted.ann : Ann := ⟨fun n => bif Nat.beq n 2 then [0, 10, 11] else [], fun n => none, fun n => none⟩
/-- 'marlstone/entry.Sorted' -/
def entry_Sorted.sh (a0 : AV) (σ : Store) (Q : AEnd → Store → Prop) : Prop :=
  Do (aBuiltin Go.Proofs.Tryz.prog .len #[33] [a0]) fun t6 =>
  Do (aBuiltin Go.Proofs.Tryz.prog .max #[3, 3] [t6, (.val (.int .i64 1))]) fun t7 =>
  Do (aBin Go.Proofs.Tryz.prog .sub 3 t7 (.val (.int .i64 1))) fun t8 =>
  Do (aSlice .slice 4 a0 none (some t8) none) fun t9 =>
  Do (aBuiltin Go.Proofs.Tryz.prog .len #[33] [t9]) fun t10 =>
  aLoop (fun go vs σ =>
    At vs 0 fun s0 => At vs 1 fun s10 => At vs 2 fun s11 => Do (aBin Go.Proofs.Tryz.prog .lss 3 s11 s10) fun t12 =>
    aCond t12
      (Do (aIndexAddr .slice 4 s0 s11) fun t16 =>
    Do (loadF true 4 t16) fun t17 =>
    Do (aBin Go.Proofs.Tryz.prog .add 3 s11 (.val (.int .i64 1))) fun t20 =>
    Do (aIndexAddr .slice 4 s0 t20) fun t21 =>
    Do (loadF true 4 t21) fun t22 =>
    Do (aPureC Go.Proofs.Tryz.prog 80 [t17, t22]) fun t23 =>
    Do (aBin Go.Proofs.Tryz.prog .geq 3 t23 (.val (.int .i64 0))) fun t24 =>
    aCond t24
      (Q (.ret (.val (.bool false))) σ)
      (Do (aBin Go.Proofs.Tryz.prog .add 3 s11 (.val (.int .i64 1))) fun t25 =>
    go [s0, s10, t25] σ))
      (Q (.ret (.val (.bool true))) σ))
    [a0, t10, (.val (.int .i64 0))] σ
theorem entry_Sorted.eq (a0 : AV) (σ : Store) (Q : AEnd → Store → Prop) : vc (semOf Go.Proofs.Tryz.prog entry_Sorted.mark) Go.Proofs.Tryz.f81.ntmps entry_Sorted.ann (bodyOf Go.Proofs.Tryz.f81) (endK [.tmp 2] Q) (argFr [a0]) σ = entry_Sorted.sh a0 σ Q := by kernel_rfl
theorem entry_Sorted.go {a0 : AV} {σ : Store} {Q : AEnd → Store → Prop} (h : entry_Sorted.sh a0 σ Q) : ACalls Go.Proofs.Tryz.prog 81 [a0] σ Q :=
  acalls_of_eq [.tmp 2] Go.Proofs.Tryz.func81 (by kernel_rfl) (by kernel_rfl) (by kernel_rfl) (by kernel_rfl) (entry_Sorted.eq a0 σ Q) h
def ref03_Sorted.mark : Mark := ⟨fun t => false, fun t => false, fun t => false, fun t => Nat.beq t 15 || Nat.beq t 20, fun t => false⟩
def ref03_Sorted.ann : Ann := ⟨fun n => bif Nat.beq n 2 then [0, 3] else [], fun n => none, fun n => none⟩
theorem Sorted_ok (l : List En) (m : SM) (hl : l.length ≤ 1000000000000) : aPure Go.Proofs.Tryz.prog 81 [.lst 4 (l.map En.av) m] (B (sorted l)) := by
  refine entry_Sorted.go ?_
  unfold entry_Sorted.sh
  repeat' (first|with_reducible (first|apply Stp.go|refine imp fun _=>?_|(refine need ?_ ?_;first|trivial|omega|exact ⟨by assumption,by omega⟩|(simp only [zL,zM];omega))|refine choT (by assumption) ?_|refine choF (by assumption) ?_|refine choF' (by assumption) ?_|(refine altT ?_ ?_;first|omega|(simp only [zL,zM];omega))|refine altF ?_|refine all fun _=>?_|refine both ?_ ?_|(refine choT ?_ ?_;omega)|(refine choF ?_ ?_;omega)|refine cho (fun _=>?_) fun _=>?_)|(with_reducible refine fact ?_ ?_;first|trivial|exact ⟨rfl,rfl⟩|kernel_rfl))
  refine loopI (β := Nat) (fun i => i ≤ l.length - 1 ∧ sorted l = sorted (l.drop i)) (fun i => [.lst 4 (l.map En.av) m, I .i64 ((l.length - 1 : Nat) : Int), I .i64 (i : Nat)]) (fun _ => []) (fun i => l.length - i) 0 ⟨by omega, rfl⟩ ?_ ?_
  · have e : (l.take (max l.length 1 - 1)).length = l.length - 1 := by rw [List.length_take]; omega
    rw [e]
    exact Sub.refl _ _
  rintro i ⟨hi, hs⟩
  repeat' (first|with_reducible (first|apply Stp.go|refine imp fun _=>?_|(refine need ?_ ?_;first|trivial|omega|exact ⟨by assumption,by omega⟩|(simp only [zL,zM];omega))|refine choT (by assumption) ?_|refine choF (by assumption) ?_|refine choF' (by assumption) ?_|(refine altT ?_ ?_;first|omega|(simp only [zL,zM];omega))|refine altF ?_|refine all fun _=>?_|refine both ?_ ?_|(refine choT ?_ ?_;omega)|(refine choF ?_ ?_;omega)|refine cho (fun _=>?_) fun _=>?_)|(with_reducible refine fact ?_ ?_;first|trivial|exact ⟨rfl,rfl⟩|kernel_rfl))
  · rename_i h1 h
    rw [cmpK_neg] at h
    rw [hs, sorted_step (by omega), h]
    exact ⟨rfl, rfl⟩
  · rename_i h1 h
    rw [cmpK_neg, Bool.not_eq_false] at h
    refine again (i + 1) (by omega) ⟨by omega, ?_⟩ (Sub.refl _ _)
    rw [hs, sorted_step (by omega), h, Bool.true_and]
  · rw [hs, sorted_end (by omega)]
    exact ⟨rfl, rfl⟩
instance {a : AV} {l : List En} {m : SM} [h : IsL a En.av 4 l m] : PC Go.Proofs.Tryz.prog 81 [a] (l.length ≤ 1000000000000) (B (sorted l)) := ⟨fun hl => ⟨[.lst 4 (l.map En.av) m], ⟨h.sub, trivial⟩, Sorted_ok l m hl⟩⟩
end Go.Ab

/- Functions of layers 3 and 4: what is right and fit, what is the same; an entry's bytes. -/
set_option linter.unusedVariables false
set_option linter.unusedSimpArgs false
namespace Go.Ab
def ref03_Right.mark : Mark := ⟨fun t => false, fun t => false, fun t => Nat.beq t 1, fun t => Nat.beq t 4 || Nat.beq t 9 || Nat.beq t 15 || Nat.beq t 21 || Nat.beq t 25 || Nat.beq t 31 || Nat.beq t 36, fun t => false⟩
def ref03_Right.ann : Ann := ⟨fun n => [], fun n => none, fun n => none⟩
def slices_IndexFunc.mark : Mark := ⟨fun t => Nat.beq t 16, fun t => false, fun t => false, fun t => Nat.beq t 15, fun t => false⟩
def slices_IndexFunc.ann : Ann := ⟨fun n => bif Nat.beq n 2 then [0, 1, 7, 8] else [], fun n => none, fun n => none⟩
/-- 'slices.IndexFunc[[]marlstone/api.Entry,marlstone/api.Entry]' -/
def slices_IndexFunc.sh (a0 a1 : AV) (σ : Store) (Q : AEnd → Store → Prop) : Prop :=
  Do (aBuiltin Go.Proofs.Tryz.prog .len #[33] [a0]) fun t7 =>
  aLoop (fun go vs σ =>
    At vs 0 fun s0 => At vs 1 fun s1 => At vs 2 fun s7 => At vs 3 fun s8 => Do (aBin Go.Proofs.Tryz.prog .lss 3 s8 s7) fun t9 =>
    aCond t9
      (Do (aIndexAddr .slice 4 s0 s8) fun t14 =>
    Do (loadF true 4 t14) fun t15 =>
    Do (aPureV Go.Proofs.Tryz.prog s1 [t15]) fun t16 =>
    aCond t16
      (Q (.ret s8) σ)
      (Do (aBin Go.Proofs.Tryz.prog .add 3 s8 (.val (.int .i64 1))) fun t18 =>
    go [s0, s1, s7, t18] σ))
      (Q (.ret (.val (.int .i64 (-1)))) σ))
    [a0, a1, t7, (.val (.int .i64 0))] σ
theorem slices_IndexFunc.eq (a0 a1 : AV) (σ : Store) (Q : AEnd → Store → Prop) : vc (semOf Go.Proofs.Tryz.prog slices_IndexFunc.mark) Go.Proofs.Tryz.f115.ntmps slices_IndexFunc.ann (bodyOf Go.Proofs.Tryz.f115) (endK [.tmp 4] Q) (argFr [a0, a1]) σ = slices_IndexFunc.sh a0 a1 σ Q := by kernel_rfl
theorem slices_IndexFunc.go {a0 a1 : AV} {σ : Store} {Q : AEnd → Store → Prop} (h : slices_IndexFunc.sh a0 a1 σ Q) : ACalls Go.Proofs.Tryz.prog 115 [a0, a1] σ Q :=
  acalls_of_eq [.tmp 4] Go.Proofs.Tryz.func115 (by kernel_rfl) (by kernel_rfl) (by kernel_rfl) (by kernel_rfl) (slices_IndexFunc.eq a0 a1 σ Q) h
def slices_ContainsFunc.mark : Mark := ⟨fun t => Nat.beq t 7, fun t => false, fun t => false, fun t => false, fun t => false⟩
def slices_ContainsFunc.ann : Ann := ⟨fun n => [], fun n => none, fun n => none⟩
/-- 'slices.ContainsFunc[[]marlstone/api.Entry,marlstone/api.Entry]' -/
def slices_ContainsFunc.sh (a0 a1 : AV) (σ : Store) (Q : AEnd → Store → Prop) : Prop :=
  Do (aPureC Go.Proofs.Tryz.prog 115 [a0, a1]) fun t7 =>
  Do (aBin Go.Proofs.Tryz.prog .geq 3 t7 (.val (.int .i64 0))) fun t8 =>
  Q (.ret t8) σ
theorem slices_ContainsFunc.eq (a0 a1 : AV) (σ : Store) (Q : AEnd → Store → Prop) : vc (semOf Go.Proofs.Tryz.prog slices_ContainsFunc.mark) Go.Proofs.Tryz.f82.ntmps slices_ContainsFunc.ann (bodyOf Go.Proofs.Tryz.f82) (endK [.tmp 4] Q) (argFr [a0, a1]) σ = slices_ContainsFunc.sh a0 a1 σ Q := by kernel_rfl
theorem slices_ContainsFunc.go {a0 a1 : AV} {σ : Store} {Q : AEnd → Store → Prop} (h : slices_ContainsFunc.sh a0 a1 σ Q) : ACalls Go.Proofs.Tryz.prog 82 [a0, a1] σ Q :=
  acalls_of_eq [.tmp 4] Go.Proofs.Tryz.func82 (by kernel_rfl) (by kernel_rfl) (by kernel_rfl) (by kernel_rfl) (slices_ContainsFunc.eq a0 a1 σ Q) h
def ref04_Fit.mark : Mark := ⟨fun t => Nat.beq t 15 || Nat.beq t 28, fun t => false, fun t => false, fun t => Nat.beq t 27, fun t => false⟩
def ref04_Fit.ann : Ann := ⟨fun n => bif Nat.beq n 4 then [0, 3] else [], fun n => none, fun n => none⟩
/-- A function value that is told of one entry. -/
class Pred (P : Program) (g : AV) (p : outParam (En → Bool)) : Prop where
  h : ∀ e : En, ∃ f a b args1, calleeOf g = some (f, a, b) ∧ SubVs (a ++ [e.av] ++ b) args1 ∧ aPure P f args1 (B (p e))
theorem Pred.pure {P : Program} {g : AV} {p : En → Bool} (h : Pred P g p) (e : En) : aPureV P g [e.av] (B (p e)) := by
  obtain ⟨f, a, b, args1, h1, h2, h3⟩ := h.h e
  unfold aPureV
  rw [h1]
  exact .inl ⟨args1, h2, h3⟩
instance predV {f : FuncId} {u : En → Bool} [h : ∀ e : En, PC Go.Proofs.Tryz.prog f [e.av] True (B (u e))] : Pred Go.Proofs.Tryz.prog (.val (.func (.func f) #[] #[])) u := ⟨fun e => by
  obtain ⟨a1, h1, h2⟩ := (h e).ct trivial
  exact ⟨f, [], [], a1, rfl, by simpa using h1, h2⟩⟩
theorem IndexFunc_ok (l : List En) (m : SM) (hl : l.length ≤ 1000000000000) (g : AV) (p : En → Bool) (hg : Pred Go.Proofs.Tryz.prog g p) :
    aPure Go.Proofs.Tryz.prog 115 [.lst 4 (l.map En.av) m, g] (I .i64 (idx p l)) := by
  refine slices_IndexFunc.go ?_
  unfold slices_IndexFunc.sh
  have step : ∀ (e : En) (K : AV → Prop), K (B (p e)) → Do (aPureV Go.Proofs.Tryz.prog g [e.av]) K := fun e K hK => ⟨_, hg.pure e, hK⟩
  repeat' (first|with_reducible (first|apply Stp.go|refine imp fun _=>?_|(refine need ?_ ?_;first|trivial|omega|exact ⟨by assumption,by omega⟩|(simp only [zL,zM];omega))|refine choT (by assumption) ?_|refine choF (by assumption) ?_|refine choF' (by assumption) ?_|(refine altT ?_ ?_;first|omega|(simp only [zL,zM];omega))|refine altF ?_|refine all fun _=>?_|refine both ?_ ?_|(refine choT ?_ ?_;omega)|(refine choF ?_ ?_;omega)|refine cho (fun _=>?_) fun _=>?_)|(with_reducible refine fact ?_ ?_;first|trivial|exact ⟨rfl,rfl⟩|kernel_rfl))
  refine loopI (β := Nat) (fun i => i ≤ l.length ∧ idx p l = (if idx p (l.drop i) < 0 then -1 else idx p (l.drop i) + i)) (fun i => [.lst 4 (l.map En.av) m, g, I .i64 (l.length : Nat), I .i64 (i : Nat)]) (fun _ => []) (fun i => l.length - i) 0 ⟨by omega, ?_⟩ (Sub.refl _ _) ?_
  · have := idx_lt p l
    simp only [List.drop_zero]
    split <;> omega
  rintro i ⟨hi, hs⟩
  repeat' (first|with_reducible (first|apply Stp.go|refine imp fun _=>?_|(refine need ?_ ?_;first|trivial|omega|exact ⟨by assumption,by omega⟩|(simp only [zL,zM];omega))|refine choT (by assumption) ?_|refine choF (by assumption) ?_|refine choF' (by assumption) ?_|(refine altT ?_ ?_;first|omega|(simp only [zL,zM];omega))|refine altF ?_|refine all fun _=>?_|refine both ?_ ?_|(refine choT ?_ ?_;omega)|(refine choF ?_ ?_;omega)|refine cho (fun _=>?_) fun _=>?_)|(with_reducible refine fact ?_ ?_;first|trivial|exact ⟨rfl,rfl⟩|kernel_rfl))
  · refine step _ _ ?_
    rename_i h1
    repeat' (first|with_reducible (first|apply Stp.go|refine imp fun _=>?_|(refine need ?_ ?_;first|trivial|omega|exact ⟨by assumption,by omega⟩|(simp only [zL,zM];omega))|refine choT (by assumption) ?_|refine choF (by assumption) ?_|refine choF' (by assumption) ?_|(refine altT ?_ ?_;first|omega|(simp only [zL,zM];omega))|refine altF ?_|refine all fun _=>?_|refine both ?_ ?_|(refine choT ?_ ?_;omega)|(refine choF ?_ ?_;omega)|refine cho (fun _=>?_) fun _=>?_)|(with_reducible refine fact ?_ ?_;first|trivial|exact ⟨rfl,rfl⟩|kernel_rfl))
    · rename_i h
      rw [drop_cons (show i < l.length by omega)] at hs
      simp only [idx, h, if_true] at hs
      refine ⟨?_, rfl⟩
      rw [hs]
      simp
    · rename_i h
      refine again (i + 1) (by omega) ⟨by omega, ?_⟩ (Sub.refl _ _)
      rw [hs, drop_cons (show i < l.length by omega)]
      have := idx_lt p (l.drop (i + 1))
      simp only [idx, h, Bool.false_eq_true, if_false]
      split <;> split <;> rename_i h2 h3 <;> (try split at h2) <;> omega
  · have : l.drop i = [] := List.drop_of_length_le (by omega)
    rw [hs, this]
    exact ⟨rfl, rfl⟩
instance {a g : AV} {l : List En} {m : SM} {p : En → Bool} [h : IsL a En.av 4 l m] [hg : Pred Go.Proofs.Tryz.prog g p] : PC Go.Proofs.Tryz.prog 115 [a, g] (l.length ≤ 1000000000000) (I .i64 (idx p l)) :=
  ⟨fun hl => ⟨[.lst 4 (l.map En.av) m, g], ⟨h.sub, SubVs.refl _⟩, IndexFunc_ok l m hl g p hg⟩⟩
theorem ContainsFunc_ok (l : List En) (m : SM) (hl : l.length ≤ 1000000000000) (g : AV) (p : En → Bool) (hg : Pred Go.Proofs.Tryz.prog g p) :
    aPure Go.Proofs.Tryz.prog 82 [.lst 4 (l.map En.av) m, g] (B (l.any p)) := by
  refine slices_ContainsFunc.go ?_
  unfold slices_ContainsFunc.sh
  repeat' (first|with_reducible (first|apply Stp.go|refine imp fun _=>?_|(refine need ?_ ?_;first|trivial|omega|exact ⟨by assumption,by omega⟩|(simp only [zL,zM];omega))|refine choT (by assumption) ?_|refine choF (by assumption) ?_|refine choF' (by assumption) ?_|(refine altT ?_ ?_;first|omega|(simp only [zL,zM];omega))|refine altF ?_|refine all fun _=>?_|refine both ?_ ?_|(refine choT ?_ ?_;omega)|(refine choF ?_ ?_;omega)|refine cho (fun _=>?_) fun _=>?_)|(with_reducible refine fact ?_ ?_;first|trivial|exact ⟨rfl,rfl⟩|kernel_rfl))
  have e : decide (0 ≤ idx p l) = l.any p := by rw [Bool.eq_iff_iff]; simpa using idx_any p l
  rw [e]
  exact ⟨rfl, rfl⟩
instance {a g : AV} {l : List En} {m : SM} {p : En → Bool} [h : IsL a En.av 4 l m] [hg : Pred Go.Proofs.Tryz.prog g p] : PC Go.Proofs.Tryz.prog 82 [a, g] (l.length ≤ 1000000000000) (B (l.any p)) :=
  ⟨fun hl => ⟨[.lst 4 (l.map En.av) m, g], ⟨h.sub, SubVs.refl _⟩, ContainsFunc_ok l m hl g p hg⟩⟩
theorem all_right (l : List En) : (!l.any fun e => !right e) = l.all right := by
  rw [List.any_eq_not_all_not]
  simp
def ref03_Same.mark : Mark := ⟨fun t => false, fun t => false, fun t => false, fun t => Nat.beq t 20 || Nat.beq t 24, fun t => false⟩
def ref03_Same.ann : Ann := ⟨fun n => bif Nat.beq n 4 then [0, 1, 5] else [], fun n => none, fun n => none⟩
/-- 'marlstone/marlstoneref03.Same' -/
def ref03_Same.sh (a0 a1 : AV) (σ : Store) (Q : AEnd → Store → Prop) : Prop :=
  Do (aBuiltin Go.Proofs.Tryz.prog .len #[33] [a0]) fun t7 =>
  Do (aBuiltin Go.Proofs.Tryz.prog .len #[33] [a1]) fun t9 =>
  Do (aBin Go.Proofs.Tryz.prog .neq 3 t7 t9) fun t10 =>
  aCond t10
    (Q (.ret (.val (.bool false))) σ)
    (aLoop (fun go vs σ =>
    At vs 0 fun s0 => At vs 1 fun s1 => At vs 2 fun s5 => Do (aBuiltin Go.Proofs.Tryz.prog .len #[33] [s0]) fun t13 =>
    Do (aBin Go.Proofs.Tryz.prog .lss 3 s5 t13) fun t14 =>
    aCond t14
      (Do (aIndexAddr .slice 4 s0 s5) fun t19 =>
    Do (loadF true 4 t19) fun t20 =>
    Do (aIndexAddr .slice 4 s1 s5) fun t23 =>
    Do (loadF true 4 t23) fun t24 =>
    Do (aBin Go.Proofs.Tryz.prog .neq 50 t20 t24) fun t25 =>
    aCond t25
      (Q (.ret (.val (.bool false))) σ)
      (Do (aBin Go.Proofs.Tryz.prog .add 3 s5 (.val (.int .i64 1))) fun t16 =>
    go [s0, s1, t16] σ))
      (Q (.ret (.val (.bool true))) σ))
    [a0, a1, (.val (.int .i64 0))] σ)
theorem ref03_Same.eq (a0 a1 : AV) (σ : Store) (Q : AEnd → Store → Prop) : vc (semOf Go.Proofs.Tryz.prog ref03_Same.mark) Go.Proofs.Tryz.f24.ntmps ref03_Same.ann (bodyOf Go.Proofs.Tryz.f24) (endK [.tmp 4] Q) (argFr [a0, a1]) σ = ref03_Same.sh a0 a1 σ Q := by kernel_rfl
theorem ref03_Same.go {a0 a1 : AV} {σ : Store} {Q : AEnd → Store → Prop} (h : ref03_Same.sh a0 a1 σ Q) : ACalls Go.Proofs.Tryz.prog 24 [a0, a1] σ Q :=
  acalls_of_eq [.tmp 4] Go.Proofs.Tryz.func24 (by kernel_rfl) (by kernel_rfl) (by kernel_rfl) (by kernel_rfl) (ref03_Same.eq a0 a1 σ Q) h
theorem Same_ok (a b : List En) (m m' : SM) (ha : a.length ≤ 1000000000000) : aPure Go.Proofs.Tryz.prog 24 [.lst 4 (a.map En.av) m, .lst 4 (b.map En.av) m'] (B (decide (a = b))) := by
  refine ref03_Same.go ?_
  unfold ref03_Same.sh
  repeat' (first|with_reducible (first|apply Stp.go|refine imp fun _=>?_|(refine need ?_ ?_;first|trivial|omega|exact ⟨by assumption,by omega⟩|(simp only [zL,zM];omega))|refine choT (by assumption) ?_|refine choF (by assumption) ?_|refine choF' (by assumption) ?_|(refine altT ?_ ?_;first|omega|(simp only [zL,zM];omega))|refine altF ?_|refine all fun _=>?_|refine both ?_ ?_|(refine choT ?_ ?_;omega)|(refine choF ?_ ?_;omega)|refine cho (fun _=>?_) fun _=>?_)|(with_reducible refine fact ?_ ?_;first|trivial|exact ⟨rfl,rfl⟩|kernel_rfl))
  · rename_i h
    have hab : a.length = b.length := h
    refine loopI (β := Nat) (fun i => i ≤ a.length ∧ decide (a = b) = decide (a.drop i = b.drop i)) (fun i => [.lst 4 (a.map En.av) m, .lst 4 (b.map En.av) m', I .i64 (i : Nat)]) (fun _ => []) (fun i => a.length - i) 0 ⟨by omega, rfl⟩ (Sub.refl _ _) ?_
    rintro i ⟨hi, hs⟩
    repeat' (first|with_reducible (first|apply Stp.go|refine imp fun _=>?_|(refine need ?_ ?_;first|trivial|omega|exact ⟨by assumption,by omega⟩|(simp only [zL,zM];omega))|refine choT (by assumption) ?_|refine choF (by assumption) ?_|refine choF' (by assumption) ?_|(refine altT ?_ ?_;first|omega|(simp only [zL,zM];omega))|refine altF ?_|refine all fun _=>?_|refine both ?_ ?_|(refine choT ?_ ?_;omega)|(refine choF ?_ ?_;omega)|refine cho (fun _=>?_) fun _=>?_)|(with_reducible refine fact ?_ ?_;first|trivial|exact ⟨rfl,rfl⟩|kernel_rfl))
    · rename_i h1 h2
      refine again (i + 1) (by omega) ⟨by omega, ?_⟩ (Sub.refl _ _)
      rw [hs, drop_cons (show i < a.length by omega), drop_cons (show i < b.length by omega), h2]
      simp
    · rename_i h1 h2
      rw [hs, drop_cons (show i < a.length by omega), drop_cons (show i < b.length by omega)]
      refine ⟨?_, rfl⟩
      simp only [List.cons.injEq, eq_false h2, false_and, decide_false]
    · have e1 : a.drop i = [] := List.drop_of_length_le (by omega)
      have e2 : b.drop i = [] := List.drop_of_length_le (by omega)
      rw [hs, e1, e2]
      exact ⟨rfl, rfl⟩
  · rename_i h
    have : ¬ a = b := fun e => h (by rw [e])
    exact ⟨by simp [this], rfl⟩
instance {x y : AV} {a b : List En} {m m' : SM} [h : IsL x En.av 4 a m] [h' : IsL y En.av 4 b m'] : PC Go.Proofs.Tryz.prog 24 [x, y] (a.length ≤ 1000000000000) (B (decide (a = b))) := ⟨fun hl => ⟨[.lst 4 (a.map En.av) m, .lst 4 (b.map En.av) m'], ⟨h.sub, h'.sub, trivial⟩, Same_ok a b m m' hl⟩⟩
end Go.Ab

/- What the functions of layers 3 and 4 compute, more. No program in sight. -/
set_option linter.unusedVariables false
set_option linter.unusedSimpArgs false
namespace Go.Ab
/-- An entry's bytes, if it is right. -/
def enR (e : En) : List UInt8 := [if e.del = true then 1 else 0] ++ put e.seq.toNat ++ (put e.key.length ++ e.key) ++ (if e.del = true then [] else put e.val.length ++ e.val)
def enB (e : En) : List UInt8 := if right e = true then enR e else []
/-- An entry of at most so many bytes. -/
def cutE (a b : Nat) (e : En) : En := ⟨e.key.take a, e.val.take b, e.del, e.seq⟩
theorem take_minN {α : Type} (l : List α) (k : Nat) : l.take (min l.length k) = l.take k := by
  rcases Nat.le_total l.length k with h | h
  · rw [Nat.min_eq_left h, List.take_of_length_le (Nat.le_refl _), List.take_of_length_le h]
  · rw [Nat.min_eq_right h]
end Go.Ab

/- An entry's bytes; few entries. -/
set_option linter.unusedVariables false
set_option linter.unusedSimpArgs false
namespace Go.Ab
def entry_Bytes.mark : Mark := ⟨fun t => Nat.beq t 5, fun t => Nat.beq t 7, fun t => Nat.beq t 1, fun t => Nat.beq t 4 || Nat.beq t 9 || Nat.beq t 14 || Nat.beq t 18 || Nat.beq t 21 || Nat.beq t 25, fun t => false⟩
def entry_Bytes.ann : Ann := ⟨fun n => [], fun n => bif Nat.beq n 6 then some [1, 3] else none, fun n => none⟩
/-- 'marlstone/entry.Bytes' -/
def entry_Bytes.sh (a0 : AV) (σ : Store) (Q : AEnd → Store → Prop) : Prop :=
  Do (aFreeze ((a0 : AV)).cells) fun t1 =>
  Do (loadF true 4 t1) fun t4 =>
  Do (aPureC Go.Proofs.Tryz.prog 46 [t4]) fun t5 =>
  Do (aUn Go.Proofs.Tryz.prog .not t5) fun t6 =>
  aCond t6
    (Q (.ret (.val (.slice none 0 0))) σ)
    (aRowL 5 (mkE [.val (.int .u8 0)]) 1 1 [(0, (W8 0))] σ fun t7 σ =>
  aJoin (fun j =>
    Do (aFieldAddr 2 1 t1) fun t8 =>
    Do (loadF false 1 t8) fun t9 =>
    aCond t9
      (Do (aIndexAddr .slice 1 t7 (.val (.int .i64 0))) fun t11 =>
      storeA 1 t11 (W8 1) σ fun u σ_2 =>
      j [t1, t7] σ_2)
      (j [t1, t7] σ)) fun vs σ_1 =>
  At vs 0 fun s1 => At vs 1 fun s3 => Do (aFieldAddr 3 1 s1) fun t13 =>
  Do (loadF false 1 t13) fun t14 =>
  Do (fun x => aConvN 3 138 t14 x Go.Proofs.Tryz.prog) fun t15 =>
  Do (aFieldAddr 0 1 s1) fun t17 =>
  Do (loadF false 1 t17) fun t18 =>
  aCall Go.Proofs.Tryz.prog 102 [s3, t15] σ_1 (fun t16 σ_3 =>
  aCall Go.Proofs.Tryz.prog 101 [t16, t18] σ_3 (fun t19 σ_4 =>
  Do (aFieldAddr 2 1 s1) fun t20 =>
  Do (loadF false 1 t20) fun t21 =>
  Do (aUn Go.Proofs.Tryz.prog .not t21) fun t22 =>
  aCond t22
    (Do (aFieldAddr 1 1 s1) fun t24 =>
    Do (loadF false 1 t24) fun t25 =>
    aCall Go.Proofs.Tryz.prog 101 [t19, t25] σ_4 (fun t26 σ_5 =>
    Q (.ret t26) σ_5) (fun e σ_6 => Q (.pan e) σ_6))
    (Q (.ret t19) σ_4)) (fun e_1 σ_7 => Q (.pan e_1) σ_7)) (fun e_2 σ_8 => Q (.pan e_2) σ_8))
theorem entry_Bytes.eq (a0 : AV) (σ : Store) (Q : AEnd → Store → Prop) : vc (semOf Go.Proofs.Tryz.prog entry_Bytes.mark) Go.Proofs.Tryz.f58.ntmps entry_Bytes.ann (bodyOf Go.Proofs.Tryz.f58) (endK [.tmp 2] Q) (argFr [a0]) σ = entry_Bytes.sh a0 σ Q := by kernel_rfl
theorem entry_Bytes.go {a0 : AV} {σ : Store} {Q : AEnd → Store → Prop} (h : entry_Bytes.sh a0 σ Q) : ACalls Go.Proofs.Tryz.prog 58 [a0] σ Q :=
  acalls_of_eq [.tmp 2] Go.Proofs.Tryz.func58 (by kernel_rfl) (by kernel_rfl) (by kernel_rfl) (by kernel_rfl) (entry_Bytes.eq a0 σ Q) h
def ref03_Bytes.mark : Mark := ⟨fun t => Nat.beq t 5 || Nat.beq t 15 || Nat.beq t 18 || Nat.beq t 24 || Nat.beq t 27 || Nat.beq t 30, fun t => false, fun t => Nat.beq t 1, fun t => Nat.beq t 4 || Nat.beq t 9 || Nat.beq t 13 || Nat.beq t 17 || Nat.beq t 22 || Nat.beq t 26 || Nat.beq t 29, fun t => false⟩
def ref03_Bytes.ann : Ann := ⟨fun n => [], fun n => none, fun n => none⟩
theorem entry_Bytes_ok (e : En) : aPure Go.Proofs.Tryz.prog 58 [e.av] (.lst 1 ((enB e).map byt) .ro) := by
  refine ACalls.fin (entry_Bytes.go ?_)
  unfold entry_Bytes.sh
  repeat' (first|with_reducible (first|apply Stp.go|refine imp fun _=>?_|(refine need ?_ ?_;first|trivial|omega|exact ⟨by assumption,by omega⟩|(simp only [zL,zM];omega))|refine choT (by assumption) ?_|refine choF (by assumption) ?_|refine choF' (by assumption) ?_|(refine altT ?_ ?_;first|omega|(simp only [zL,zM];omega))|refine altF ?_|refine all fun _=>?_|refine both ?_ ?_|(refine choT ?_ ?_;omega)|(refine choF ?_ ?_;omega)|refine cho (fun _=>?_) fun _=>?_)|(with_reducible refine fact ?_ ?_;first|trivial|exact ⟨rfl,rfl⟩|kernel_rfl))
  · rename_i h v
    obtain ⟨k0, k1, k2, k3, k4, k5⟩ := right_bounds h
    have hp := put_len64 (v := e.seq.toNat) (by omega)
    have hp2 := put_len64 (v := e.key.length) (by omega)
    refine joinI (β := Unit) (fun _ => True) (fun _ => [.rptr e.cs, .own v 1]) (fun _ => [.row v 5 1 ([if e.del = true then (1 : UInt8) else 0].map byt) 0]) ?_ ?_
    · repeat' (first|with_reducible (first|apply Stp.go|refine imp fun _=>?_|(refine need ?_ ?_;first|trivial|omega|exact ⟨by assumption,by omega⟩|(simp only [zL,zM];omega))|refine choT (by assumption) ?_|refine choF (by assumption) ?_|refine choF' (by assumption) ?_|(refine altT ?_ ?_;first|omega|(simp only [zL,zM];omega))|refine altF ?_|refine all fun _=>?_|refine both ?_ ?_|(refine choT ?_ ?_;omega)|(refine choF ?_ ?_;omega)|refine cho (fun _=>?_) fun _=>?_)|(with_reducible refine fact ?_ ?_;first|trivial|exact ⟨rfl,rfl⟩|kernel_rfl))
      · rename_i hd
        refine meet () trivial ?_
        rw [if_pos hd]
        exact Sub.refl _ _
      · rename_i hd
        refine meet () trivial ?_
        rw [if_neg hd]
        exact Sub.refl _ _
    · intro _ _
      repeat' (first|with_reducible (first|apply Stp.go|refine imp fun _=>?_|(refine need ?_ ?_;first|trivial|omega|exact ⟨by assumption,by omega⟩|(simp only [zL,zM];omega))|refine choT (by assumption) ?_|refine choF (by assumption) ?_|refine choF' (by assumption) ?_|(refine altT ?_ ?_;first|omega|(simp only [zL,zM];omega))|refine altF ?_|refine all fun _=>?_|refine both ?_ ?_|(refine choT ?_ ?_;omega)|(refine choF ?_ ?_;omega)|refine cho (fun _=>?_) fun _=>?_)|(with_reducible refine fact ?_ ?_;first|trivial|exact ⟨rfl,rfl⟩|kernel_rfl))
      all_goals
        refine ⟨_, _, _, rfl, retOwn (Sub.refl _ _), ?_, rfl⟩
        simp_all [enB, enR]
  · rename_i h
    refine ⟨_, _, _, rfl, retNil byt (sz := 1) (by decide) (Sub.refl _ _), ?_, rfl⟩
    simp [enB, h]
instance (e : En) : PC Go.Proofs.Tryz.prog 58 [e.av] True (.lst 1 ((enB e).map byt) .ro) := ⟨fun _ => PC.of (entry_Bytes_ok e)⟩
end Go.Ab

/- The order of keys; what a fold is. No program in sight. -/
set_option linter.unusedVariables false
set_option linter.unusedSimpArgs false
namespace Go.Ab
theorem lt_asymm : ∀ {a b : List UInt8}, lt a b = true → lt b a = false
  | [], [], h => by simp [lt, Op.bytesLess] at h
  | [], b :: bs, h => by simp [lt, Op.bytesLess]
  | a :: aa, [], h => by simp [lt, Op.bytesLess] at h
  | a :: aa, b :: bs, h => by
    simp only [lt, Op.bytesLess, Bool.or_eq_true, decide_eq_true_eq, Bool.and_eq_true, beq_iff_eq] at h
    simp only [lt, Op.bytesLess, Bool.or_eq_false_iff, decide_eq_false_iff_not, Bool.and_eq_false_iff]
    rcases h with h | ⟨rfl, h⟩
    · refine ⟨by simp only [UInt8.lt_iff_toNat_lt] at h ⊢; omega, .inl ?_⟩
      have : ¬ b = a := fun e => by subst e; simp only [UInt8.lt_iff_toNat_lt] at h; omega
      simpa using this
    · exact ⟨by simp only [UInt8.lt_iff_toNat_lt]; omega, .inr (lt_asymm h)⟩
theorem lt_trans' : ∀ {a b c : List UInt8}, lt a b = true → lt b c = true → lt a c = true
  | _, [], [], h, k => by simp [lt, Op.bytesLess] at k
  | _, b :: bs, [], h, k => by simp [lt, Op.bytesLess] at k
  | [], _, c :: cs, h, k => by simp [lt, Op.bytesLess]
  | a :: aa, [], c :: cs, h, k => by simp [lt, Op.bytesLess] at h
  | a :: aa, b :: bs, c :: cs, h, k => by
    simp only [lt, Op.bytesLess, Bool.or_eq_true, decide_eq_true_eq, Bool.and_eq_true, beq_iff_eq, UInt8.lt_iff_toNat_lt] at h k ⊢
    rcases h with h | ⟨rfl, h⟩ <;> rcases k with k | ⟨rfl, k⟩
    · exact .inl (by omega)
    · exact .inl h
    · exact .inl k
    · exact .inr ⟨rfl, lt_trans' h k⟩
theorem lt_tri : ∀ {a b : List UInt8}, lt a b = false → lt b a = false → a = b
  | [], [], h, k => rfl
  | [], b :: bs, h, k => by simp [lt, Op.bytesLess] at h
  | a :: aa, [], h, k => by simp [lt, Op.bytesLess] at k
  | a :: aa, b :: bs, h, k => by
    simp only [lt, Op.bytesLess, Bool.or_eq_false_iff, decide_eq_false_iff_not, Bool.and_eq_false_iff, UInt8.lt_iff_toNat_lt] at h k
    have e : a = b := UInt8.toNat_inj.1 (by omega)
    subst e
    have h2 : lt aa bs = false := by rcases h.2 with h | h; simp at h; exact h
    have k2 : lt bs aa = false := by rcases k.2 with h | h; simp at h; exact h
    rw [lt_tri h2 k2]
theorem lt_ne {a b : List UInt8} (h : lt a b = true) : a ≠ b := fun e => by subst e; rw [lt_irrefl] at h; cases h
theorem lt_of_ge {a b c : List UInt8} (h : lt b a = false) (k : lt b c = true) : lt a c = true := by
  cases hc : lt a b with
  | true => exact lt_trans' hc k
  | false => rw [lt_tri hc h]; exact k
abbrev Rises (l : List En) : Prop := l.Pairwise fun a b => lt a.key b.key = true
theorem sorted_iff : ∀ l : List En, sorted l = true ↔ Rises l
  | [] => by simp [sorted]
  | [a] => by simp [sorted]
  | a :: b :: l => by
    have ih := sorted_iff (b :: l)
    simp only [sorted, Bool.and_eq_true, ih, Rises]
    constructor
    · rintro ⟨h1, h2⟩
      refine List.pairwise_cons.2 ⟨fun c hc => ?_, h2⟩
      rcases List.mem_cons.1 hc with rfl | hc
      · exact h1
      · exact lt_trans' h1 ((List.pairwise_cons.1 h2).1 c hc)
    · intro h
      exact ⟨(List.pairwise_cons.1 h).1 b List.mem_cons_self, (List.pairwise_cons.1 h).2⟩

/-- An entry put into a rising list. -/
def putE (e : En) : List En → List En
  | [] => [e]
  | x :: l => if lt x.key e.key = true then x :: putE e l else if x.key = e.key then (if x.seq ≤ e.seq then e :: l else x :: l) else e :: x :: l
def foldE (l : List En) : List En := l.foldl (fun F e => putE e F) []
/-- What a list has of a key. -/
def getE (k : List UInt8) (F : List En) : Option En := F.find? fun x => decide (x.key = k)
theorem foldE_snoc (l : List En) (e : En) : foldE (l ++ [e]) = putE e (foldE l) := by simp [foldE, List.foldl_append]
theorem putE_key {e : En} : ∀ {F : List En} {x : En}, x ∈ putE e F → x = e ∨ x ∈ F
  | [], x, h => by simp [putE] at h; exact .inl h
  | y :: l, x, h => by
    unfold putE at h
    split at h
    · rcases List.mem_cons.1 h with rfl | h
      · exact .inr List.mem_cons_self
      · rcases putE_key h with h | h
        · exact .inl h
        · exact .inr (List.mem_cons_of_mem _ h)
    · split at h
      · split at h
        · rcases List.mem_cons.1 h with h | h
          · exact .inl h
          · exact .inr (List.mem_cons_of_mem _ h)
        · exact .inr h
      · rcases List.mem_cons.1 h with h | h
        · exact .inl h
        · exact .inr h
theorem putE_rises {e : En} : ∀ {F : List En}, Rises F → Rises (putE e F)
  | [], _ => by simp [putE]
  | y :: l, h => by
    obtain ⟨h1, h2⟩ := List.pairwise_cons.1 h
    unfold putE
    split
    · rename_i hlt
      refine List.pairwise_cons.2 ⟨fun x hx => ?_, putE_rises h2⟩
      rcases putE_key hx with rfl | hx
      · exact hlt
      · exact h1 x hx
    · rename_i hlt
      split
      · rename_i he
        split
        · exact List.pairwise_cons.2 ⟨fun x hx => by rw [← he]; exact h1 x hx, h2⟩
        · exact h
      · rename_i hne
        have hle : lt e.key y.key = true := by
          cases hc : lt e.key y.key with
          | true => rfl
          | false => exact absurd (lt_tri (by simpa using hlt) hc) hne
        refine List.pairwise_cons.2 ⟨fun x hx => ?_, h⟩
        rcases List.mem_cons.1 hx with rfl | hx
        · exact hle
        · exact lt_trans' hle (h1 x hx)
theorem foldE_rises (l : List En) : Rises (foldE l) := by
  unfold foldE
  suffices h : ∀ F, Rises F → Rises (l.foldl (fun F e => putE e F) F) from h [] (by simp)
  induction l with
  | nil => exact fun F h => h
  | cons e l ih => exact fun F h => ih _ (putE_rises h)
/-- The later one of two, by their numbers. -/
def newer (o : Option En) (e : En) : En := match o with
  | none => e
  | some x => if x.seq ≤ e.seq then e else x
theorem getE_lt {k : List UInt8} : ∀ {F : List En}, (∀ x ∈ F, lt k x.key = true) → getE k F = none
  | [], _ => rfl
  | y :: l, h => by
    have : ¬ y.key = k := fun e => lt_ne (h y List.mem_cons_self) e.symm
    unfold getE
    rw [List.find?_cons_of_neg (by simpa using this)]
    exact getE_lt fun x hx => h x (List.mem_cons_of_mem _ hx)
theorem getE_put {e : En} {k : List UInt8} : ∀ {F : List En}, Rises F → getE k (putE e F) = if e.key = k then some (newer (getE k F) e) else getE k F
  | [], _ => by
    unfold putE getE
    by_cases h : e.key = k <;> simp [h, newer]
  | y :: l, h => by
    obtain ⟨h1, h2⟩ := List.pairwise_cons.1 h
    have ih := getE_put (e := e) (k := k) h2
    unfold putE
    split
    · rename_i hlt
      by_cases hy : y.key = k
      · have hek : ¬ e.key = k := fun he => lt_ne hlt (by rw [hy, he])
        simp [getE, hy, hek]
      · have e1 : ∀ L, getE k (y :: L) = getE k L := fun L => by simp [getE, hy]
        rw [e1, e1, ih]
    · rename_i hlt
      split
      · rename_i he
        split
        · rename_i hs
          by_cases hk : e.key = k
          · have hy : y.key = k := by rw [he, hk]
            simp [getE, hk, hy, newer, hs]
          · have hy : ¬ y.key = k := by rw [he]; exact hk
            simp [getE, hk, hy]
        · rename_i hs
          by_cases hk : e.key = k
          · have hy : y.key = k := by rw [he, hk]
            simp [getE, hk, hy, newer, hs]
          · simp [hk]
      · rename_i hne
        have hle : lt e.key y.key = true := by
          cases hc : lt e.key y.key with
          | true => rfl
          | false => exact absurd (lt_tri (by simpa using hlt) hc) hne
        by_cases hk : e.key = k
        · have hn : getE k (y :: l) = none := getE_lt fun x hx => by
            rw [← hk]
            rcases List.mem_cons.1 hx with rfl | hx
            · exact hle
            · exact lt_trans' hle (h1 x hx)
          rw [hn]
          simp [getE, hk, newer]
        · simp [getE, hk]
theorem getE_mem {k : List UInt8} {F : List En} {x : En} (h : getE k F = some x) : x ∈ F ∧ x.key = k := ⟨List.mem_of_find?_eq_some h, by simpa using List.find?_some h⟩
theorem getE_of_mem : ∀ {F : List En} {x : En}, Rises F → x ∈ F → getE x.key F = some x
  | [], x, _, h => by cases h
  | y :: l, x, hr, h => by
    obtain ⟨h1, h2⟩ := List.pairwise_cons.1 hr
    rcases List.mem_cons.1 h with rfl | h
    · simp [getE]
    · have : ¬ y.key = x.key := lt_ne (h1 x h)
      have ih := getE_of_mem h2 h
      simp only [getE] at ih ⊢
      rw [List.find?_cons_of_neg (by simpa using this)]
      exact ih
/-- Two rising lists that have the same of each key are one. -/
theorem rises_ext : ∀ {F G : List En}, Rises F → Rises G → (∀ x, x ∈ F ↔ x ∈ G) → F = G
  | [], [], _, _, _ => rfl
  | [], g :: G, _, _, h => by have := (h g).2 List.mem_cons_self; cases this
  | f :: F, [], _, _, h => by have := (h f).1 List.mem_cons_self; cases this
  | f :: F, g :: G, hF, hG, h => by
    obtain ⟨f1, f2⟩ := List.pairwise_cons.1 hF
    obtain ⟨g1, g2⟩ := List.pairwise_cons.1 hG
    have e : f = g := by
      rcases List.mem_cons.1 ((h f).1 List.mem_cons_self) with e | hf
      · exact e
      · rcases List.mem_cons.1 ((h g).2 List.mem_cons_self) with e | hg
        · exact e.symm
        · have := lt_asymm (g1 f hf)
          rw [f1 g hg] at this
          cases this
    subst e
    rw [rises_ext f2 g2 fun x => ?_]
    have := h x
    simp only [List.mem_cons] at this
    constructor
    · intro hx
      rcases this.1 (.inr hx) with rfl | hx'
      · have := f1 x hx; rw [lt_irrefl] at this; cases this
      · exact hx'
    · intro hx
      rcases this.2 (.inr hx) with rfl | hx'
      · have := g1 x hx; rw [lt_irrefl] at this; cases this
      · exact hx'
theorem rises_ext' {F G : List En} (hF : Rises F) (hG : Rises G) (h : ∀ k, getE k F = getE k G) : F = G :=
  rises_ext hF hG fun x => ⟨fun hx => (getE_mem (by rw [← h]; exact getE_of_mem hF hx)).1, fun hx => (getE_mem (by rw [h]; exact getE_of_mem hG hx)).1⟩
def hasK (F : List En) (k : List UInt8) : Bool := F.any fun x => decide (x.key = k)
theorem putE_length (e : En) : ∀ F : List En, (putE e F).length ≤ F.length + 1
  | [] => by simp [putE]
  | y :: l => by
    have := putE_length e l
    unfold putE
    repeat' split
    all_goals simp only [List.length_cons]
    all_goals omega
theorem foldE_length (l : List En) : (foldE l).length ≤ l.length := by
  unfold foldE
  suffices h : ∀ F : List En, (l.foldl (fun F e => putE e F) F).length ≤ F.length + l.length by simpa using h []
  induction l with
  | nil => simp
  | cons e l ih =>
    intro F
    have h1 := ih (putE e F)
    have h2 := putE_length e F
    simp only [List.foldl_cons, List.length_cons] at h1 ⊢
    omega
end Go.Ab

/- Folds, and places of keys. -/
set_option linter.unusedVariables false
set_option linter.unusedSimpArgs false
namespace Go.Ab
def entry_Find.mark : Mark := ⟨fun t => false, fun t => false, fun t => false, fun t => Nat.beq t 15, fun t => false⟩
def entry_Find.ann : Ann := ⟨fun n => bif Nat.beq n 3 then [1, 6, 7, 10, 11, 12] else [], fun n => bif Nat.beq n 7 then some [1, 6, 7, 9, 10, 11, 12] else none, fun n => none⟩
end Go.Ab

/- Tables of entries by their keys, and what a walk over one gathers. No program in sight. -/
set_option linter.unusedVariables false
set_option linter.unusedSimpArgs false
namespace Go.Ab
section tables
variable {κ α : Type} [DecidableEq κ]
theorem findT_set (k k' : κ) (v : α) (c : Nat) : ∀ L : List (Nat × κ × α), findT k' (setT k v c L) = if k' = k then some v else findT k' L
  | [] => by
    by_cases h : k' = k <;> simp [setT, findT, h]
  | x :: L => by
    have ih := findT_set k k' v c L
    unfold findT at ih
    by_cases hx : k = x.2.1
    · subst hx
      by_cases h : k' = x.2.1 <;> simp [setT, findT, h]
    · simp only [setT, decide_eq_false hx, cond_false]
      by_cases h : k' = x.2.1
      · have : ¬ k' = k := fun e => hx (e.symm.trans h)
        simp [findT, h, Ne.symm hx]
      · simp only [findT, List.find?_cons, decide_eq_false h]
        exact ih
theorem births_set (k : κ) (v : α) (c : Nat) : ∀ L : List (Nat × κ × α), (setT k v c L).map (·.1) = if hasT k L = true then L.map (·.1) else L.map (·.1) ++ [c]
  | [] => by simp [setT, hasT]
  | x :: L => by
    have ih := births_set k v c L
    by_cases hx : k = x.2.1
    · simp [setT, hasT, hx]
    · simp only [setT, decide_eq_false hx, cond_false, List.map_cons, ih, hasT, List.any_cons, Bool.false_or]
      by_cases h : (L.any fun x => decide (k = x.2.1)) = true <;> simp [h]
theorem keys_set (k : κ) (v : α) (c : Nat) : ∀ L : List (Nat × κ × α), (setT k v c L).map (·.2.1) = if hasT k L = true then L.map (·.2.1) else L.map (·.2.1) ++ [k]
  | [] => by simp [setT, hasT]
  | x :: L => by
    have ih := keys_set k v c L
    by_cases hx : k = x.2.1
    · simp [setT, hasT, hx]
    · simp only [setT, decide_eq_false hx, cond_false, List.map_cons, ih, hasT, List.any_cons, Bool.false_or]
      by_cases h : (L.any fun x => decide (k = x.2.1)) = true <;> simp [h]
theorem mem_set {k : κ} {v : α} {c : Nat} : ∀ {L : List (Nat × κ × α)} {x : Nat × κ × α}, x ∈ setT k v c L → x ∈ L ∨ (x.2.1 = k ∧ x.2.2 = v)
  | [], x, h => by simp [setT] at h; subst h; exact .inr ⟨rfl, rfl⟩
  | y :: L, x, h => by
    unfold setT at h
    cases hd : decide (k = y.2.1) with
    | true =>
      rw [hd, cond_true] at h
      rcases List.mem_cons.1 h with rfl | h
      · exact .inr ⟨(of_decide_eq_true hd).symm, rfl⟩
      · exact .inl (List.mem_cons_of_mem _ h)
    | false =>
      rw [hd, cond_false] at h
      rcases List.mem_cons.1 h with rfl | h
      · exact .inl List.mem_cons_self
      · rcases mem_set h with h | h
        · exact .inl (List.mem_cons_of_mem _ h)
        · exact .inr h
theorem hasT_iff (k : κ) (L : List (Nat × κ × α)) : hasT k L = true ↔ k ∈ L.map (·.2.1) := by
  unfold hasT
  rw [List.any_eq_true]
  constructor
  · rintro ⟨x, hx, h⟩
    exact List.mem_map.2 ⟨x, hx, (of_decide_eq_true h).symm⟩
  · intro h
    obtain ⟨x, hx, e⟩ := List.mem_map.1 h
    exact ⟨x, hx, decide_eq_true e.symm⟩
theorem findT_mem {L : List (Nat × κ × α)} {k : κ} {v : α} (h : findT k L = some v) : ∃ x ∈ L, x.2.1 = k ∧ x.2.2 = v := by
  unfold findT at h
  obtain ⟨x, h1, h2⟩ := Option.map_eq_some_iff.1 h
  have h3 := List.find?_some h1
  exact ⟨x, List.mem_of_find?_eq_some h1, (of_decide_eq_true h3).symm, h2⟩
theorem findT_of_mem : ∀ {L : List (Nat × κ × α)} {x : Nat × κ × α}, (L.map (·.2.1)).Nodup → x ∈ L → findT x.2.1 L = some x.2.2
  | [], x, _, h => by cases h
  | y :: L, x, hn, h => by
    obtain ⟨h1, h2⟩ := List.nodup_cons.1 hn
    rcases List.mem_cons.1 h with rfl | h
    · simp [findT]
    · have hne : ¬ x.2.1 = y.2.1 := fun e => h1 (List.mem_map.2 ⟨x, h, e⟩)
      have ih := findT_of_mem h2 h
      simp only [findT, List.find?_cons, decide_eq_false hne] at ih ⊢
      exact ih
end tables
/-- Of a table whose births differ, one more is taken. -/
theorem left_take {κ α : Type} : ∀ {L : List (Nat × κ × α)} {seen : List Nat} {x : Nat × κ × α}, (L.map (·.1)).Nodup → x ∈ leftT L seen → (leftT L seen).Perm (x :: leftT L (seen ++ [x.1]))
  | [], seen, x, _, h => by simp [leftT] at h
  | y :: L, seen, x, hn, h => by
    obtain ⟨h1, h2⟩ := List.nodup_cons.1 hn
    unfold leftT at h ⊢
    by_cases hy : seen.contains y.1 = true
    · have hy2 : (seen ++ [x.1]).contains y.1 = true := by rw [List.contains_iff_mem] at hy ⊢; exact List.mem_append_left _ hy
      rw [List.filter_cons_of_neg (by simpa using hy)] at h ⊢
      rw [List.filter_cons_of_neg (by rw [hy2]; decide)]
      exact left_take h2 h
    · rw [List.filter_cons_of_pos (by simpa using hy)] at h ⊢
      rcases List.mem_cons.1 h with rfl | hx
      · rw [List.filter_cons_of_neg (by simp)]
        refine List.Perm.cons _ (List.Perm.of_eq ?_)
        apply List.filter_congr
        intro z hz
        have hne : ¬ z.1 = x.1 := fun e => h1 (List.mem_map.2 ⟨z, hz, e⟩)
        simp [hne]
      · have hne : ¬ y.1 = x.1 := fun e => h1 (List.mem_map.2 ⟨x, (List.mem_filter.1 hx).1, e.symm⟩)
        have hy2 : ¬ (seen ++ [x.1]).contains y.1 = true := by
          rw [List.contains_iff_mem] at hy ⊢
          intro h3
          rcases List.mem_append.1 h3 with h3 | h3
          · exact hy h3
          · exact hne (List.mem_singleton.1 h3)
        rw [List.filter_cons_of_pos (by simpa using hy2)]
        exact ((left_take h2 hx).cons y).trans (List.Perm.swap _ _ _)
theorem left_nil {κ α : Type} (L : List (Nat × κ × α)) : leftT L [] = L := by simp [leftT]

/-- A table that holds a rising list. -/
structure Tbl (L : List (Nat × List UInt8 × En)) (c : Nat) (F : List En) : Prop where
  nb : (L.map (·.1)).Nodup
  lt : ∀ x ∈ L, x.1 < c
  nk : (L.map (·.2.1)).Nodup
  key : ∀ x ∈ L, x.2.2.key = x.2.1
  find : ∀ k, findT k L = getE k F
theorem Tbl.nil : Tbl [] 0 [] := ⟨List.nodup_nil, by simp, List.nodup_nil, by simp, fun _ => rfl⟩
theorem Tbl.keep {L : List (Nat × List UInt8 × En)} {c : Nat} {F : List En} (h : Tbl L c F) (hF : Rises F) {e x : En} (hx : findT e.key L = some x) (hs : ¬ x.seq ≤ e.seq) : Tbl L c (putE e F) := by
  refine ⟨h.nb, h.lt, h.nk, h.key, fun k => ?_⟩
  rw [getE_put hF, h.find]
  split
  · rename_i hk
    subst hk
    rw [← h.find, hx]
    simp [newer, hs]
  · rfl
theorem Tbl.set {L : List (Nat × List UInt8 × En)} {c : Nat} {F : List En} (h : Tbl L c F) (hF : Rises F) {e : En} (hs : ∀ x, findT e.key L = some x → x.seq ≤ e.seq) : Tbl (setT e.key e c L) (bif hasT e.key L then c else c + 1) (putE e F) := by
  have hb := births_set e.key e c L
  have hk := keys_set e.key e c L
  refine ⟨?_, fun x hx => ?_, ?_, fun x hx => ?_, fun k => ?_⟩
  · rw [hb]
    split
    · exact h.nb
    · rw [List.nodup_append]
      refine ⟨h.nb, by simp, fun a ha b hb2 e => ?_⟩
      rw [List.mem_singleton] at hb2
      obtain ⟨x, hx, rfl⟩ := List.mem_map.1 ha
      have := h.lt x hx
      omega
  · have hm : x.1 ∈ (setT e.key e c L).map (·.1) := List.mem_map.2 ⟨x, hx, rfl⟩
    rw [hb] at hm
    cases hh : hasT e.key L with
    | true =>
      rw [if_pos hh] at hm
      obtain ⟨y, hy, e1⟩ := List.mem_map.1 hm
      rw [← e1]
      exact h.lt y hy
    | false =>
      rw [if_neg (by rw [hh]; decide)] at hm
      rcases List.mem_append.1 hm with hm | hm
      · obtain ⟨y, hy, e1⟩ := List.mem_map.1 hm
        have := h.lt y hy
        show x.1 < c + 1
        omega
      · rw [List.mem_singleton] at hm
        show x.1 < c + 1
        omega
  · rw [hk]
    split
    · exact h.nk
    · rename_i hh
      rw [List.nodup_append]
      refine ⟨h.nk, by simp, fun a ha b hb2 e1 => ?_⟩
      rw [List.mem_singleton] at hb2
      subst hb2; subst e1
      exact hh ((hasT_iff _ _).2 ha)
  · rcases mem_set hx with hx | ⟨h1, h2⟩
    · exact h.key x hx
    · rw [h1, h2]
  · rw [findT_set, getE_put hF]
    by_cases hke : k = e.key
    · subst hke
      rw [if_pos rfl, if_pos rfl, ← h.find]
      cases hf : findT e.key L with
      | none => rfl
      | some x => simp [newer, hs x hf]
    · rw [if_neg hke, if_neg (fun h => hke h.symm), h.find]
/-- What was gathered off the table, sorted, is the list. -/
theorem Tbl.sorted {L : List (Nat × List UInt8 × En)} {c : Nat} {F o : List En} (h : Tbl L c F) (hF : Rises F) (hp : o.Perm (L.map (·.2.2))) (hs : o.Pairwise fun a b => Ab.lt b.key a.key = false) : o = F := by
  have hk : (o.map (·.key)).Nodup := by
    refine ((hp.map (·.key)).nodup_iff).2 ?_
    rw [List.map_map]
    have : L.map ((·.key) ∘ (·.2.2)) = L.map (·.2.1) := List.map_congr_left fun x hx => h.key x hx
    rw [this]
    exact h.nk
  have hr : Rises o := by
    clear hp
    induction o with
    | nil => exact List.Pairwise.nil
    | cons a o ih =>
      obtain ⟨s1, s2⟩ := List.pairwise_cons.1 hs
      obtain ⟨k1, k2⟩ := List.nodup_cons.1 hk
      refine List.pairwise_cons.2 ⟨fun b hb => ?_, ih s2 k2⟩
      cases hab : Ab.lt a.key b.key with
      | true => rfl
      | false =>
        have e := lt_tri hab (s1 b hb)
        exact absurd (List.mem_map.2 ⟨b, hb, e.symm⟩) k1
  refine rises_ext hr hF fun x => ?_
  rw [hp.mem_iff]
  constructor
  · intro hx
    obtain ⟨y, hy, rfl⟩ := List.mem_map.1 hx
    have := findT_of_mem h.nk hy
    rw [h.find] at this
    exact (getE_mem this).1
  · intro hx
    have := getE_of_mem hF hx
    rw [← h.find] at this
    obtain ⟨y, hy, _, rfl⟩ := findT_mem this
    exact List.mem_map.2 ⟨y, hy, rfl⟩
theorem setT_length {κ α : Type} [DecidableEq κ] (k : κ) (v : α) (c : Nat) : ∀ L : List (Nat × κ × α), (setT k v c L).length ≤ L.length + 1
  | [] => by simp [setT]
  | x :: L => by
    have ih := setT_length k v c L
    unfold setT
    cases decide (k = x.2.1) with
    | true => simp
    | false => simp only [cond_false, List.length_cons]; omega
end Go.Ab

/- Folds of folds, and of parts. No program in sight. -/
set_option linter.unusedVariables false
set_option linter.unusedSimpArgs false
namespace Go.Ab
/-- One more of a key. -/
def stepK (k : List UInt8) (o : Option En) (e : En) : Option En := if e.key = k then some (newer o e) else o
def newest (k : List UInt8) (l : List En) : Option En := l.foldl (stepK k) none
end Go.Ab

/- Numbers and texts read from bytes. No program in sight. -/
set_option linter.unusedVariables false
set_option linter.unusedSimpArgs false
namespace Go.Ab
instance (priority := 1100) (b : UInt8) : Cells (byt b) [W8 b] := ⟨rfl⟩
/-- A number of bytes, from the i-th one on; what was read so far. -/
def getA : List UInt8 → Nat → Nat → Option (Nat × Nat)
  | [], _, _ => none
  | c :: s, i, v => if 10 ≤ i ∨ (i = 9 ∧ 1 < c.toNat) ∨ (0 < i ∧ c.toNat = 0) then none
    else if c.toNat < 128 then some (v + c.toNat % 128 * 128 ^ i, i + 1) else getA s (i + 1) (v + c.toNat % 128 * 128 ^ i)
def getG (s : List UInt8) : Option (Nat × Nat) := getA s 0 0
def getN (s : List UInt8) : Nat := ((getG s).map (·.2)).getD 0
def getO (s : List UInt8) : Bool := (getG s).isSome
theorem drop_cons_d {α : Type} [Inhabited α] {l : List α} {i : Nat} (h : i < l.length) : l.drop i = l.getD i default :: l.drop (i + 1) := by
  rw [List.drop_eq_getElem_cons h, List.getD_eq_getElem?_getD, List.getElem?_eq_getElem h]
  rfl
/-- A text: its length, its bytes. -/
def textG (s : List UInt8) : Option (List UInt8 × Nat) := match getG s with
  | none => none
  | some (v, n) => if s.length - n < v then none else some ((s.drop n).take v, n + v)
def textN (s : List UInt8) : Nat := ((textG s).map (·.2)).getD 0
def textO (s : List UInt8) : Bool := (textG s).isSome
end Go.Ab

/- An entry read is the entry written. No program in sight. -/
set_option linter.unusedVariables false
set_option linter.unusedSimpArgs false
namespace Go.Ab
theorem right_b {e : En} (h : right e = true) : 1 ≤ e.key.length ∧ e.key.length ≤ 128 ∧ e.val.length ≤ 1024 ∧ (e.del = true → e.val = []) ∧ 1 ≤ e.seq ∧ e.seq ≤ 1099511627776 := by
  simp [right] at h
  obtain ⟨⟨⟨⟨⟨h1, h2⟩, h3⟩, h4⟩, h5⟩, h6⟩ := h
  have : 1 ≤ e.key.length := List.length_pos_iff.2 h1
  exact ⟨this, by omega, by omega, fun hd => h4.resolve_left (by simp [hd]), h5, h6⟩
theorem enB_nil {e : En} (h : ¬ right e = true) : enB e = [] := by unfold enB; rw [if_neg h]
theorem enB_right {e : En} (h : right e = true) : enB e = enR e := by unfold enB; rw [if_pos h]
theorem enR_length {e : En} (he : right e = true) : 1 ≤ (enR e).length ∧ (enR e).length ≤ 1200 := by
  obtain ⟨k1, k2, k3, k4, k5, k6⟩ := right_b he
  have p1 := put_len64 (v := e.seq.toNat) (by omega)
  have p2 := put_len64 (v := e.key.length) (by omega)
  have p3 := put_len64 (v := e.val.length) (by omega)
  unfold enR
  split <;> simp only [List.length_append, List.length_cons, List.length_nil] <;> omega
theorem enB_length (e : En) : (enB e).length ≤ 1200 := by
  by_cases h : right e = true
  · rw [enB_right h]; exact (enR_length h).2
  · rw [enB_nil h]; simp
end Go.Ab
