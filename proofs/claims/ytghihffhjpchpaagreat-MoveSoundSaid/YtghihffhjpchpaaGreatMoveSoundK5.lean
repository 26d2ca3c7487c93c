/- The texts that this claim needs, part 5: a logic over abstract values, its steps, what the functions do. No condition of its own. -/
import Derived.Test.YtghihffhjpchpaaGreatProg
import Derived.Test.YtghihffhjpchpaaGreatMoveSoundK4
set_option linter.unusedVariables false
set_option linter.unusedSimpArgs false
namespace Go.Ab
open Go.Proofs
instance : KindIs Tryz.prog 3 .i64 := ⟨by kernel_rfl⟩
instance : KindIs Tryz.prog 5 .u8 := ⟨by kernel_rfl⟩
instance : StrT Tryz.prog 9 := ⟨by kernel_rfl⟩
instance : SlT Tryz.prog 22 := ⟨by kernel_rfl⟩
instance : SlT Tryz.prog 23 := ⟨by kernel_rfl⟩
instance : SlT Tryz.prog 24 := ⟨by kernel_rfl⟩
instance : SlT Tryz.prog 33 := ⟨by kernel_rfl⟩
instance : EnT Tryz.prog 50 := ⟨by kernel_rfl⟩
instance : SlT Tryz.prog 63 := ⟨by kernel_rfl⟩
instance : SlT Tryz.prog 66 := ⟨by kernel_rfl⟩
instance : MapT Tryz.prog 82 .string (.agg #[(.string ⟨#[]⟩), (.string ⟨#[]⟩), (.bool false), (.int .i64 0)]) := ⟨by kernel_rfl⟩
instance : SlT Tryz.prog 102 := ⟨by kernel_rfl⟩
instance : SlT Tryz.prog 103 := ⟨by kernel_rfl⟩
instance : SlT Tryz.prog 125 := ⟨by kernel_rfl⟩
instance : KindIs Tryz.prog 138 .u64 := ⟨by kernel_rfl⟩
instance : KindIs Tryz.prog 159 .u32 := ⟨by kernel_rfl⟩
def entry_Right.mark : Mark := ⟨fun t => false, fun t => false, fun t => Nat.beq t 1, fun t => Nat.beq t 4 || Nat.beq t 8 || Nat.beq t 14 || Nat.beq t 20 || Nat.beq t 23 || Nat.beq t 30 || Nat.beq t 35, fun t => false⟩
def entry_Right.ann : Ann := ⟨fun n => [], fun n => none, fun n => none⟩
def entry_Right.sh (a0 : AV) (σ : Store) (Q : AEnd → Store → Prop) : Prop :=
 Do (aFreeze ((a0 : AV)).cells) fun t1 =>
 Do (aFieldAddr 0 1 t1) fun t3 =>
 Do (loadF false 1 t3) fun t4 =>
 Do (aBin Tryz.prog .neq 9 t4 (.val (.string ⟨#[]⟩))) fun t5 =>
 Do (aGuard t5 true (aFieldAddr 0 1 t1)) fun t7 =>
 Do (aGuard t5 true (loadF false 1 t7)) fun t8 =>
 Do (aGuard t5 true (aBuiltin Tryz.prog .len #[9] [t8])) fun t9 =>
 Do (aGuard t5 true (aBin Tryz.prog .leq 3 t9 (.val (.int .i64 128)))) fun t10 =>
 Do (aPick t5 t10 (.val (.bool false))) fun t11 =>
 Do (aGuard t11 true (aFieldAddr 1 1 t1)) fun t13 =>
 Do (aGuard t11 true (loadF false 1 t13)) fun t14 =>
 Do (aGuard t11 true (aBuiltin Tryz.prog .len #[9] [t14])) fun t15 =>
 Do (aGuard t11 true (aBin Tryz.prog .leq 3 t15 (.val (.int .i64 1024)))) fun t16 =>
 Do (aPick t11 t16 (.val (.bool false))) fun t17 =>
 Do (aGuard t17 true (aFieldAddr 2 1 t1)) fun t19 =>
 Do (aGuard t17 true (loadF false 1 t19)) fun t20 =>
 Do (aGuard t17 true (aIs t20)) fun t21 =>
 Do (aGuard t21 true (aFieldAddr 1 1 t1)) fun t22 =>
 Do (aGuard t21 true (loadF false 1 t22)) fun t23 =>
 Do (aGuard t21 true (aBin Tryz.prog .neq 9 t23 (.val (.string ⟨#[]⟩)))) fun t24 =>
 Do (aGuard t17 true (aPick t21 t24 (.val (.bool false)))) fun t25 =>
 Do (aGuard t17 true (aUn Tryz.prog .not t25)) fun t26 =>
 Do (aPick t17 t26 (.val (.bool false))) fun t27 =>
 Do (aGuard t27 true (aFieldAddr 3 1 t1)) fun t29 =>
 Do (aGuard t27 true (loadF false 1 t29)) fun t30 =>
 Do (aGuard t27 true (aBin Tryz.prog .geq 3 t30 (.val (.int .i64 1)))) fun t31 =>
 Do (aPick t27 t31 (.val (.bool false))) fun t32 =>
 Do (aGuard t32 true (aFieldAddr 3 1 t1)) fun t34 =>
 Do (aGuard t32 true (loadF false 1 t34)) fun t35 =>
 Do (aGuard t32 true (aBin Tryz.prog .leq 3 t35 (.val (.int .i64 1099511627776)))) fun t36 =>
 Do (aPick t32 t36 (.val (.bool false))) fun t37 =>
 Q (.ret t37) σ
theorem entry_Right.eq (a0 : AV) (σ : Store) (Q : AEnd → Store → Prop) : vc (semOf Tryz.prog entry_Right.mark) Tryz.f46.ntmps entry_Right.ann (bodyOf Tryz.f46) (endK [.tmp 2] Q) (argFr [a0]) σ = entry_Right.sh a0 σ Q := by kernel_rfl
theorem entry_Right.go {a0 : AV} {σ : Store} {Q : AEnd → Store → Prop} (h : entry_Right.sh a0 σ Q) : ACalls Tryz.prog 46 [a0] σ Q :=
 acalls_of_eq [.tmp 2] Tryz.func46 (by kernel_rfl) (by kernel_rfl) (by kernel_rfl) (by kernel_rfl) (entry_Right.eq a0 σ Q) h
theorem entry_Right_ok (e : En) : aPure Tryz.prog 46 [e.av] (B (right e)) := by
 refine entry_Right.go ?_
 unfold entry_Right.sh
 repeat' (with_reducible first|apply Stp.go|refine imp fun _=>?_|refine zq ?_|refine zt ?_|refine zf ?_|refine zg ?_|refine za ?_|refine altF ?_|refine all fun _=>?_|refine both ?_ ?_|refine zu ?_|refine zv ?_|refine cho (fun _=>?_) fun _=>?_|refine zw ?_)
 all_goals (refine ⟨?_, by first | rfl | trivial⟩; simp_all [right] <;> omega)
instance (e : En) : PC Tryz.prog 46 [e.av] True (B (right e)) := ⟨fun _ => PC.of (entry_Right_ok e)⟩

def codec_Put.mark : Mark := ⟨fun t => false, fun t => false, fun t => false, fun t => false, fun t => false⟩
def codec_Put.ann : Ann := ⟨fun n => bif Nat.beq n 2 then [0, 1] else [], fun n => none, fun n => none⟩
def codec_Put.sh (a0 a1 : AV) (σ : Store) (Q : AEnd → Store → Prop) : Prop :=
 Do (aBuiltin Tryz.prog .len #[63] [a0]) fun t7 =>
 Do (aBuiltin Tryz.prog .len #[63] [a0]) fun t9 =>
 Do (aSlice .slice 1 a0 none (some t7) (some t9)) fun t10 =>
 aLoop (fun go vs σ =>
 At vs 0 fun s0 => At vs 1 fun s1 => Do (aBin Tryz.prog .geq 138 s1 (W64 128)) fun t12 =>
 aCond t12
 (Do (fun x => aConvN 138 5 s1 x Tryz.prog) fun t17 =>
 Do (aBin Tryz.prog .or 5 t17 (W8 128)) fun t18 =>
 Do (aSlLit (mkE [.val (.int .u8 0)]) 1 1 [(0, t18)]) fun t19 =>
 aAppend 5 1 1 s0 t19 σ (subK fun t20 σ_1 =>
 Do (aBin Tryz.prog .shr 138 s1 (W64 7)) fun t14 =>
 go [t20, t14] σ_1))
 (Do (fun x => aConvN 138 5 s1 x Tryz.prog) fun t23 =>
 Do (aSlLit (mkE [.val (.int .u8 0)]) 1 1 [(0, t23)]) fun t24 =>
 aAppend 5 1 1 s0 t24 σ (subK fun t25 σ_2 =>
 Q (.ret t25) σ_2)))
 [t10, a1] σ
theorem codec_Put.eq (a0 a1 : AV) (σ : Store) (Q : AEnd → Store → Prop) : vc (semOf Tryz.prog codec_Put.mark) Tryz.f102.ntmps codec_Put.ann (bodyOf Tryz.f102) (endK [.tmp 4] Q) (argFr [a0, a1]) σ = codec_Put.sh a0 a1 σ Q := by kernel_rfl
theorem codec_Put.go {a0 a1 : AV} {σ : Store} {Q : AEnd → Store → Prop} (h : codec_Put.sh a0 a1 σ Q) : ACalls Tryz.prog 102 [a0, a1] σ Q :=
 acalls_of_eq [.tmp 4] Tryz.func102 (by kernel_rfl) (by kernel_rfl) (by kernel_rfl) (by kernel_rfl) (codec_Put.eq a0 a1 σ Q) h
theorem u64_len {n : Nat} (h : n < 18446744073709551616) : (UInt64.ofNat n).toNat = n := by simp [UInt64.toNat_ofNat', Nat.mod_eq_of_lt h]
theorem put_w {w : UInt64} (h : 128 ≤ w.toNat) : put w.toNat = (UInt8.ofNat w.toNat ||| 128) :: put (w >>> UInt64.ofNat 7).toNat := by
 rw [put_more (by omega)]
 have e1 : (w >>> UInt64.ofNat 7).toNat = w.toNat / 128 := by simp [Nat.shiftRight_eq_div_pow]
 have e2 : UInt8.ofNat w.toNat ||| 128 = UInt8.ofNat (w.toNat % 128 + 128) := by
  apply UInt8.toNat.inj
  have := or_128 w.toNat
  rw [UInt8.toNat_or, UInt8.toNat_ofNat']
  show w.toNat % 256 ||| 128 = _
  rw [this]
  simp
  omega
 rw [e1, e2]
theorem codec_Put_ok (l : List UInt8) (m : SM) (v : UInt64) (hl : l.length ≤ 1000000000000) (τ : Store) :
    ACalls Tryz.prog 102 [.lst 1 (l.map byt) m, W64 v] τ fun x σ' => ∃ y, x = .ret (.own y (l ++ put v.toNat).length) ∧ σ' = .row y 5 1 ((l ++ put v.toNat).map byt) 0 :: τ := by
  refine codec_Put.go ?_
  unfold codec_Put.sh
  have hp := put_len64 (lt64 v)
  repeat' (with_reducible first|apply Stp.go|refine imp fun _=>?_|refine zq ?_|refine zt ?_|refine zf ?_|refine zg ?_|refine za ?_|refine altF ?_|refine all fun _=>?_|refine both ?_ ?_|refine zu ?_|refine zv ?_|refine cho (fun _=>?_) fun _=>?_|refine zw ?_)
  refine loopI (β := List UInt8 × UInt64 × Option Value) (fun x => l ++ put v.toNat = x.1 ++ put x.2.1.toNat ∧ x.1.length + (put x.2.1.toNat).length ≤ 1000000000010)
    (fun x => [match x.2.2 with | none => .lst 1 (x.1.map byt) .full | some y => .own y x.1.length, W64 x.2.1]) (fun x => match x.2.2 with | none => τ | some y => .row y 5 1 (x.1.map byt) 0 :: τ) (fun x => x.2.1.toNat) (l, v, none) ⟨rfl, by dsimp only; omega⟩ (Sub.refl _ _) ?_
  rintro ⟨a, w, y⟩ ⟨hw, ha⟩
  dsimp only at hw ha ⊢
  have hpw := put_len64 (lt64 w)
  cases y
  all_goals
    dsimp only
    repeat' (with_reducible first|apply Stp.go|refine imp fun _=>?_|refine zq ?_|refine zt ?_|refine zf ?_|refine zg ?_|refine za ?_|refine altF ?_|refine all fun _=>?_|refine both ?_ ?_|refine zu ?_|refine zv ?_|refine cho (fun _=>?_) fun _=>?_|refine zw ?_)
  all_goals
    rename_i h x
    first
    | (refine again (a ++ [UInt8.ofNat w.toNat ||| 128], w >>> UInt64.ofNat 7, some x) ?_ ⟨?_, ?_⟩ (Sub.refl _ _)
       · simp [Nat.shiftRight_eq_div_pow]; omega
       · rw [hw, put_w h]; simp
       · have := congrArg List.length (put_w h)
         simp only [List.length_cons, List.length_append, List.length_nil] at this ⊢
         omega)
    | (have e : l ++ put v.toNat = a ++ [UInt8.ofNat w.toNat] := by rw [hw, put_small (by omega)]
       rw [e]
       exact ⟨_, rfl, rfl⟩)
instance (priority := 1100) {a : AV} {l : List UInt8} {m : SM} {n : Nat} {τ : Store} [h : IsL a byt 1 l m] : EC Tryz.prog 102 [a, W64 (UInt64.ofNat n)] τ (n < 18446744073709551616 ∧ l.length ≤ 1000000000000) Value (fun y => .own y (l ++ put n).length) (fun y => .row y 5 1 ((l ++ put n).map byt) 0 :: τ) :=
 ⟨fun hl => by
  have := (codec_Put_ok l m (UInt64.ofNat n) hl.2 τ).subV (args := [a, W64 (UInt64.ofNat n)]) ⟨h.sub, SubVs.refl _⟩
  rw [u64_len hl.1] at this
  exact this⟩
def ref01_Put.mark : Mark := ⟨fun t => false, fun t => false, fun t => false, fun t => false, fun t => false⟩
def ref01_Put.ann : Ann := ⟨fun n => bif Nat.beq n 1 then [0, 1] else [], fun n => none, fun n => none⟩
def ref01_Put.sh (a0 a1 : AV) (σ : Store) (Q : AEnd → Store → Prop) : Prop :=
 aLoop (fun go vs σ =>
 At vs 0 fun s0 => At vs 1 fun s1 => Do (aBin Tryz.prog .geq 138 s1 (W64 128)) fun t6 =>
 aCond t6
 (Do (aBin Tryz.prog .rem 138 s1 (W64 128)) fun t9 =>
 Do (fun x => aConvN 138 5 t9 x Tryz.prog) fun t10 =>
 Do (aBin Tryz.prog .add 5 t10 (W8 128)) fun t11 =>
 Do (aSlLit (mkE [.val (.int .u8 0)]) 1 1 [(0, t11)]) fun t12 =>
 Do (aConvBS t12) fun t13 =>
 Do (aBin Tryz.prog .add 9 s0 t13) fun t14 =>
 Do (aBin Tryz.prog .quo 138 s1 (W64 128)) fun t16 =>
 go [t14, t16] σ)
 (Do (fun x => aConvN 138 5 s1 x Tryz.prog) fun t19 =>
 Do (aSlLit (mkE [.val (.int .u8 0)]) 1 1 [(0, t19)]) fun t20 =>
 Do (aConvBS t20) fun t21 =>
 Do (aBin Tryz.prog .add 9 s0 t21) fun t22 =>
 Q (.ret t22) σ))
 [a0, a1] σ
theorem ref01_Put.eq (a0 a1 : AV) (σ : Store) (Q : AEnd → Store → Prop) : vc (semOf Tryz.prog ref01_Put.mark) Tryz.f137.ntmps ref01_Put.ann (bodyOf Tryz.f137) (endK [.tmp 4] Q) (argFr [a0, a1]) σ = ref01_Put.sh a0 a1 σ Q := by kernel_rfl
theorem ref01_Put.go {a0 a1 : AV} {σ : Store} {Q : AEnd → Store → Prop} (h : ref01_Put.sh a0 a1 σ Q) : ACalls Tryz.prog 137 [a0, a1] σ Q :=
 acalls_of_eq [.tmp 4] Tryz.func137 (by kernel_rfl) (by kernel_rfl) (by kernel_rfl) (by kernel_rfl) (ref01_Put.eq a0 a1 σ Q) h
theorem ref01_Put_ok (l : List UInt8) (v : UInt64) (hl : l.length ≤ 1000000000000) : aPure Tryz.prog 137 [S l, W64 v] (S (l ++ put v.toNat)) := by
 refine ref01_Put.go ?_
 unfold ref01_Put.sh
 have hp := put_len64 (lt64 v)
 refine loopI (β := List UInt8 × UInt64) (fun x => l ++ put v.toNat = x.1 ++ put x.2.toNat ∧ x.1.length + (put x.2.toNat).length ≤ 1000000000010) (fun x => [S x.1, W64 x.2]) (fun _ => []) (fun x => x.2.toNat) (l, v) ⟨rfl, by dsimp only; omega⟩ (Sub.refl _ _) ?_
 rintro ⟨a, w⟩ ⟨hw, ha⟩
 dsimp only at hw ha ⊢
 have hpw := put_len64 (lt64 w)
 repeat' (with_reducible first|apply Stp.go|refine imp fun _=>?_|refine zq ?_|refine zt ?_|refine zf ?_|refine zg ?_|refine za ?_|refine altF ?_|refine all fun _=>?_|refine both ?_ ?_|refine zu ?_|refine zv ?_|refine cho (fun _=>?_) fun _=>?_|refine zw ?_)
 ·rename_i h
  have h1 := put_more (v := w.toNat) (by omega)
  have h2 : (w / 128).toNat = w.toNat / 128 := by simp
  refine again (a ++ [UInt8.ofNat (w % 128).toNat + 128], w / 128) ?_ ⟨?_, ?_⟩ (Sub.refl _ _)
  ·dsimp only; rw [h2]; omega
  ·have e : UInt8.ofNat (w % 128).toNat + 128 = UInt8.ofNat (w.toNat % 128 + 128) := by
    rw [UInt64.toNat_mod]; apply UInt8.toNat.inj; simp
   rw [hw, h1, e, h2]; simp
  ·have := congrArg List.length h1
   simp only [List.length_cons, List.length_append, List.length_nil, h2] at this ⊢
   omega
 ·rw [hw, put_small (by omega)]
  exact ⟨rfl, rfl⟩
instance (priority := 1100) (l : List UInt8) (n : Nat) : PC Tryz.prog 137 [S l, W64 (UInt64.ofNat n)] (n < 18446744073709551616 ∧ l.length ≤ 1000000000000) (S (l ++ put n)) := ⟨fun h => by
 have := ref01_Put_ok l (UInt64.ofNat n) h.2
 rw [u64_len h.1] at this
 exact PC.of this⟩
def ref01_PutText.mark : Mark := ⟨fun t => Nat.beq t 9, fun t => false, fun t => false, fun t => false, fun t => false⟩
def ref01_PutText.ann : Ann := ⟨fun n => [], fun n => none, fun n => none⟩
def ref01_PutText.sh (a0 a1 : AV) (σ : Store) (Q : AEnd → Store → Prop) : Prop :=
 Do (aBuiltin Tryz.prog .len #[9] [a1]) fun t7 =>
 Do (fun x => aConvN 3 138 t7 x Tryz.prog) fun t8 =>
 Do (aPureC Tryz.prog 137 [a0, t8]) fun t9 =>
 Do (aBin Tryz.prog .add 9 t9 a1) fun t11 =>
 Q (.ret t11) σ
theorem ref01_PutText.eq (a0 a1 : AV) (σ : Store) (Q : AEnd → Store → Prop) : vc (semOf Tryz.prog ref01_PutText.mark) Tryz.f136.ntmps ref01_PutText.ann (bodyOf Tryz.f136) (endK [.tmp 4] Q) (argFr [a0, a1]) σ = ref01_PutText.sh a0 a1 σ Q := by kernel_rfl
theorem ref01_PutText.go {a0 a1 : AV} {σ : Store} {Q : AEnd → Store → Prop} (h : ref01_PutText.sh a0 a1 σ Q) : ACalls Tryz.prog 136 [a0, a1] σ Q :=
 acalls_of_eq [.tmp 4] Tryz.func136 (by kernel_rfl) (by kernel_rfl) (by kernel_rfl) (by kernel_rfl) (ref01_PutText.eq a0 a1 σ Q) h
def codec_PutText.mark : Mark := ⟨fun t => false, fun t => false, fun t => false, fun t => false, fun t => false⟩
def codec_PutText.ann : Ann := ⟨fun n => [], fun n => none, fun n => none⟩
def codec_PutText.sh (a0 a1 : AV) (σ : Store) (Q : AEnd → Store → Prop) : Prop :=
 Do (aBuiltin Tryz.prog .len #[9] [a1]) fun t7 =>
 Do (fun x => aConvN 3 138 t7 x Tryz.prog) fun t8 =>
 aCall Tryz.prog 102 [a0, t8] σ (fun t9 σ =>
 aAppend 5 1 1 t9 a1 σ (subK fun t11 σ_1 =>
 Q (.ret t11) σ_1)) (fun e σ_2 => Q (.pan e) σ_2)
theorem codec_PutText.eq (a0 a1 : AV) (σ : Store) (Q : AEnd → Store → Prop) : vc (semOf Tryz.prog codec_PutText.mark) Tryz.f101.ntmps codec_PutText.ann (bodyOf Tryz.f101) (endK [.tmp 4] Q) (argFr [a0, a1]) σ = codec_PutText.sh a0 a1 σ Q := by kernel_rfl
theorem codec_PutText.go {a0 a1 : AV} {σ : Store} {Q : AEnd → Store → Prop} (h : codec_PutText.sh a0 a1 σ Q) : ACalls Tryz.prog 101 [a0, a1] σ Q :=
 acalls_of_eq [.tmp 4] Tryz.func101 (by kernel_rfl) (by kernel_rfl) (by kernel_rfl) (by kernel_rfl) (codec_PutText.eq a0 a1 σ Q) h
theorem ref01_PutText_ok (l s : List UInt8) (hl : l.length ≤ 1000000000000) (hs : s.length ≤ 1000000000000) : aPure Tryz.prog 136 [S l, S s] (S (l ++ (put s.length ++ s))) := by
 refine ref01_PutText.go ?_
 unfold ref01_PutText.sh
 have hp := put_len64 (v := s.length) (by omega)
 repeat' (with_reducible first|apply Stp.go|refine imp fun _=>?_|refine zq ?_|refine zt ?_|refine zf ?_|refine zg ?_|refine za ?_|refine altF ?_|refine all fun _=>?_|refine both ?_ ?_|refine zu ?_|refine zv ?_|refine cho (fun _=>?_) fun _=>?_|refine zw ?_)
 exact ⟨by simp, rfl⟩
theorem codec_PutText_ok (l s : List UInt8) (m : SM) (hl : l.length ≤ 1000000000000) (hs : s.length ≤ 1000000000000) (τ : Store) :
  ACalls Tryz.prog 101 [.lst 1 (l.map byt) m, S s] τ fun x σ' => ∃ y, x = .ret (.own y (l ++ (put s.length ++ s)).length) ∧ σ' = .row y 5 1 ((l ++ (put s.length ++ s)).map byt) 0 :: τ := by
 refine codec_PutText.go ?_
 unfold codec_PutText.sh
 have hp := put_len64 (v := s.length) (by omega)
 repeat' (with_reducible first|apply Stp.go|refine imp fun _=>?_|refine zq ?_|refine zt ?_|refine zf ?_|refine zg ?_|refine za ?_|refine altF ?_|refine all fun _=>?_|refine both ?_ ?_|refine zu ?_|refine zv ?_|refine cho (fun _=>?_) fun _=>?_|refine zw ?_)
 rw [List.append_assoc]
 exact ⟨_, rfl, rfl⟩
instance {a : AV} {l s : List UInt8} {m : SM} {τ : Store} [h : IsL a byt 1 l m] : EC Tryz.prog 101 [a, S s] τ (l.length ≤ 1000000000000 ∧ s.length ≤ 1000000000000) Value (fun y => .own y (l ++ (put s.length ++ s)).length) (fun y => .row y 5 1 ((l ++ (put s.length ++ s)).map byt) 0 :: τ) :=
 ⟨fun hl => (codec_PutText_ok l s m hl.1 hl.2 τ).subV ⟨h.sub, SubVs.refl _⟩⟩
end Go.Ab
