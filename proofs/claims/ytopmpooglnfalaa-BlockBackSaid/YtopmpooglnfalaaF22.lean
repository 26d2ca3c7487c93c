/- Numbers of four bytes read; a block read. -/
import Derived.Test.YtopmpooglnfalaaF21
set_option linter.unusedVariables false
set_option linter.unusedSimpArgs false
namespace Go.Ab
/-- What bytes say, the greatest first. -/
def valB (l : List UInt8) : Nat := l.foldl (fun a c => a * 256 + c.toNat) 0
theorem valB_snoc (l : List UInt8) (c : UInt8) : valB (l ++ [c]) = valB l * 256 + c.toNat := by simp [valB, List.foldl_append]
theorem valB_lt : ∀ (n : Nat) (l : List UInt8), l.length = n → valB l < 256 ^ n
  | 0, l, h => by rw [List.length_eq_zero_iff.1 h]; decide
  | n + 1, l, h => by
    have hne : l ≠ [] := fun e => by rw [e] at h; cases h
    obtain ⟨l', c, rfl⟩ : ∃ l' c, l = l' ++ [c] := ⟨l.dropLast, l.getLast hne, (List.dropLast_concat_getLast hne).symm⟩
    have ih := valB_lt n l' (by simpa using h)
    have := UInt8.toNat_lt c
    rw [valB_snoc, Nat.pow_succ]
    omega
def fixV (l : List UInt8) : Nat := if 4 ≤ l.length then valB (l.take 4) else 0
theorem fixV_lt (l : List UInt8) : fixV l < 4294967296 := by
  unfold fixV
  split
  · exact valB_lt 4 _ (by rw [List.length_take]; omega)
  · decide
theorem or_mul {x y : UInt32} {q k : Nat} (hx : x.toNat = q * 2 ^ k) (hy : y.toNat < 2 ^ k) : (x ||| y).toNat = q * 2 ^ k + y.toNat := by
  rw [UInt32.toNat_or, hx, ← Nat.shiftLeft_eq, ← Nat.shiftLeft_add_eq_or_of_lt hy]
theorem shl_mul {x : UInt32} {k : Nat} (hk : k < 32) (hx : x.toNat * 2 ^ k < 4294967296) : (x <<< UInt32.ofNat k).toNat = x.toNat * 2 ^ k := by
  have e : (UInt32.ofNat k).toNat = k := by rw [UInt32.toNat_ofNat']; exact Nat.mod_eq_of_lt (by omega)
  rw [UInt32.toNat_shiftLeft, e, Nat.mod_eq_of_lt hk, Nat.shiftLeft_eq]
  exact Nat.mod_eq_of_lt hx
theorem b32 (c : UInt8) : (UInt32.ofNat c.toNat).toNat = c.toNat := by
  have := UInt8.toNat_lt c
  rw [UInt32.toNat_ofNat']; exact Nat.mod_eq_of_lt (by omega)
def codec_Fixed.mark : Mark := ⟨fun t => false, fun t => false, fun t => false, fun t => Nat.beq t 16, fun t => false⟩
def codec_Fixed.ann : Ann := ⟨fun n => bif Nat.beq n 5 then [4, 11, 12, 13] else [], fun n => none, fun n => none⟩
/-- 'marlstone/codec.Fixed' -/
def codec_Fixed.sh (a0 : AV) (σ : Store) (Q : AEnd → Store → Prop) : Prop :=
  Do (aBuiltin Go.Proofs.Try.prog .len #[25] [a0]) fun t8 =>
  Do (aBin Go.Proofs.Try.prog .lss 3 t8 (.val (.int .i64 4))) fun t9 =>
  aCond t9
    (Q (.ret (.tuple [(W32 0), (.val (.bool false))])) σ)
    (Do (aSlice .slice 1 a0 none (some (.val (.int .i64 4))) none) fun t11 =>
  Do (aBuiltin Go.Proofs.Try.prog .len #[25] [t11]) fun t12 =>
  aLoop (fun go vs σ =>
    At vs 0 fun s4 => At vs 1 fun s11 => At vs 2 fun s12 => At vs 3 fun s13 => Do (aBin Go.Proofs.Try.prog .lss 3 s13 s12) fun t14 =>
    aCond t14
      (Do (aIndexAddr .slice 1 s11 s13) fun t15 =>
    Do (loadF false 1 t15) fun t16 =>
    Do (aBin Go.Proofs.Try.prog .shl 59 s4 (W64 8)) fun t18 =>
    Do (fun x => aConvN 5 59 t16 x Go.Proofs.Try.prog) fun t20 =>
    Do (aBin Go.Proofs.Try.prog .or 59 t18 t20) fun t21 =>
    Do (aBin Go.Proofs.Try.prog .add 3 s13 (.val (.int .i64 1))) fun t22 =>
    go [t21, s11, s12, t22] σ)
      (Q (.ret (.tuple [s4, (.val (.bool true))])) σ))
    [(W32 0), t11, t12, (.val (.int .i64 0))] σ)
theorem codec_Fixed.eq (a0 : AV) (σ : Store) (Q : AEnd → Store → Prop) : vc (semOf Go.Proofs.Try.prog codec_Fixed.mark) Go.Proofs.Try.f56.ntmps codec_Fixed.ann (bodyOf Go.Proofs.Try.f56) (endK [.tmp 2, .tmp 3] Q) (argFr [a0]) σ = codec_Fixed.sh a0 σ Q := by kernel_rfl
theorem codec_Fixed.go {a0 : AV} {σ : Store} {Q : AEnd → Store → Prop} (h : codec_Fixed.sh a0 σ Q) : ACalls Go.Proofs.Try.prog 56 [a0] σ Q :=
  acalls_of_eq [.tmp 2, .tmp 3] Go.Proofs.Try.func56 (by kernel_rfl) (by kernel_rfl) (by kernel_rfl) (by kernel_rfl) (codec_Fixed.eq a0 σ Q) h
def ref01_Fixed.mark : Mark := ⟨fun t => false, fun t => false, fun t => false, fun t => false, fun t => false⟩
def ref01_Fixed.ann : Ann := ⟨fun n => [], fun n => none, fun n => none⟩
/-- 'marlstone/marlstoneref01.Fixed' -/
def ref01_Fixed.sh (a0 : AV) (σ : Store) (Q : AEnd → Store → Prop) : Prop :=
  Do (aBuiltin Go.Proofs.Try.prog .len #[9] [a0]) fun t5 =>
  Do (aBin Go.Proofs.Try.prog .lss 3 t5 (.val (.int .i64 4))) fun t6 =>
  aCond t6
    (Q (.ret (.tuple [(W32 0), (.val (.bool false))])) σ)
    (Do (aIndex .string false 1 a0 (.val (.int .i64 0))) fun t8 =>
  Do (fun x => aConvN 5 59 t8 x Go.Proofs.Try.prog) fun t9 =>
  Do (aBin Go.Proofs.Try.prog .shl 59 t9 (W64 24)) fun t10 =>
  Do (aIndex .string false 1 a0 (.val (.int .i64 1))) fun t12 =>
  Do (fun x => aConvN 5 59 t12 x Go.Proofs.Try.prog) fun t13 =>
  Do (aBin Go.Proofs.Try.prog .shl 59 t13 (W64 16)) fun t14 =>
  Do (aBin Go.Proofs.Try.prog .or 59 t10 t14) fun t15 =>
  Do (aIndex .string false 1 a0 (.val (.int .i64 2))) fun t17 =>
  Do (fun x => aConvN 5 59 t17 x Go.Proofs.Try.prog) fun t18 =>
  Do (aBin Go.Proofs.Try.prog .shl 59 t18 (W64 8)) fun t19 =>
  Do (aBin Go.Proofs.Try.prog .or 59 t15 t19) fun t20 =>
  Do (aIndex .string false 1 a0 (.val (.int .i64 3))) fun t22 =>
  Do (fun x => aConvN 5 59 t22 x Go.Proofs.Try.prog) fun t23 =>
  Do (aBin Go.Proofs.Try.prog .or 59 t20 t23) fun t24 =>
  Q (.ret (.tuple [t24, (.val (.bool true))])) σ)
theorem ref01_Fixed.eq (a0 : AV) (σ : Store) (Q : AEnd → Store → Prop) : vc (semOf Go.Proofs.Try.prog ref01_Fixed.mark) Go.Proofs.Try.f59.ntmps ref01_Fixed.ann (bodyOf Go.Proofs.Try.f59) (endK [.tmp 2, .tmp 3] Q) (argFr [a0]) σ = ref01_Fixed.sh a0 σ Q := by kernel_rfl
theorem ref01_Fixed.go {a0 : AV} {σ : Store} {Q : AEnd → Store → Prop} (h : ref01_Fixed.sh a0 σ Q) : ACalls Go.Proofs.Try.prog 59 [a0] σ Q :=
  acalls_of_eq [.tmp 2, .tmp 3] Go.Proofs.Try.func59 (by kernel_rfl) (by kernel_rfl) (by kernel_rfl) (by kernel_rfl) (ref01_Fixed.eq a0 σ Q) h
theorem codec_Fixed_ok (l : List UInt8) (m : SM) (hl : l.length ≤ 1000000000000000) : aPure Go.Proofs.Try.prog 56 [.lst 1 (l.map byt) m] (.tuple [W32 (UInt32.ofNat (fixV l)), B (decide (4 ≤ l.length))]) := by
  refine codec_Fixed.go ?_
  unfold codec_Fixed.sh
  repeat' (first | with_reducible apply Stp.go | with_reducible refine imp fun _ => ?_ | (with_reducible refine hyp ?_ ?_; first | assumption | exact leftT_mem (by assumption)) | (with_reducible refine need ?_ ?_; first | trivial | omega | (simp only [List.length_append, List.length_cons, List.length_nil, List.length_map, List.length_take, List.length_drop, List.length_replicate]; omega)) | (with_reducible refine fact ?_ ?_; first | trivial | exact ⟨rfl, rfl⟩ | kernel_rfl) | with_reducible refine choT (by assumption) ?_ | with_reducible refine choF (by assumption) ?_ | with_reducible refine choF' (by assumption) ?_ | (with_reducible refine altT ?_ ?_; first | omega | (simp only [List.length_append, List.length_cons, List.length_nil, List.length_map, List.length_take, List.length_drop, List.length_replicate]; omega)) | with_reducible refine altF ?_ | with_reducible refine all fun _ => ?_ | with_reducible refine both ?_ ?_ | (with_reducible refine choT ?_ ?_; omega) | (with_reducible refine choF ?_ ?_; omega) | with_reducible refine cho (fun _ => ?_) (fun _ => ?_))
  · rename_i h
    have e1 : fixV l = 0 := by rw [fixV, if_neg (by omega)]
    have e2 : decide (4 ≤ l.length) = false := decide_eq_false (by omega)
    rw [e1, e2]
    exact ⟨rfl, rfl⟩
  · rename_i h
    have e3 : (l.take 4).length = 4 := by rw [List.length_take]; omega
    refine loopI (β := Nat × UInt32) (fun x => x.1 ≤ 4 ∧ x.2.toNat = valB (l.take x.1)) (fun x => [W32 x.2, .lst 1 ((l.take 4).map byt) .ro, I .i64 ((l.take 4).length : Nat), I .i64 (x.1 : Nat)]) (fun _ => []) (fun x => 4 - x.1) (0, 0) ⟨by decide, rfl⟩ (Sub.refl _ _) ?_
    rintro ⟨i, w⟩ ⟨h1, h2⟩
    dsimp only at h1 h2 ⊢
    have lt8 : (l.take i).length = i := by rw [List.length_take]; omega
    repeat' (first | with_reducible apply Stp.go | with_reducible refine imp fun _ => ?_ | (with_reducible refine hyp ?_ ?_; first | assumption | exact leftT_mem (by assumption)) | (with_reducible refine need ?_ ?_; first | trivial | omega | (simp only [List.length_append, List.length_cons, List.length_nil, List.length_map, List.length_take, List.length_drop, List.length_replicate]; omega)) | (with_reducible refine fact ?_ ?_; first | trivial | exact ⟨rfl, rfl⟩ | kernel_rfl) | with_reducible refine choT (by assumption) ?_ | with_reducible refine choF (by assumption) ?_ | with_reducible refine choF' (by assumption) ?_ | (with_reducible refine altT ?_ ?_; first | omega | (simp only [List.length_append, List.length_cons, List.length_nil, List.length_map, List.length_take, List.length_drop, List.length_replicate]; omega)) | with_reducible refine altF ?_ | with_reducible refine all fun _ => ?_ | with_reducible refine both ?_ ?_ | (with_reducible refine choT ?_ ?_; omega) | (with_reducible refine choF ?_ ?_; omega) | with_reducible refine cho (fun _ => ?_) (fun _ => ?_))
    · rename_i hi
      rw [e3] at hi
      have hv := valB_lt i _ lt8
      have hp : (256 : Nat) ^ i ≤ 256 ^ 3 := Nat.pow_le_pow_right (by decide) (by omega)
      have eg : (l.take 4).getD i default = l.getD i default := by rw [List.getD_eq_getElem?_getD, List.getElem?_take, if_pos hi, ← List.getD_eq_getElem?_getD]
      refine again (i + 1, _) (by dsimp only; omega) ⟨by dsimp only; omega, ?_⟩ (Sub.refl _ _)
      have hc := UInt8.toNat_lt ((l.take 4).getD i default)
      have e1 := shl_mul (x := w) (k := 8) (by decide) (by rw [h2]; omega)
      have e2 := or_mul e1 (y := UInt32.ofNat ((l.take 4).getD i default).toNat) (by rw [b32]; exact hc)
      dsimp only
      rw [e2, b32, h2, eg, take_succ_d (by omega), valB_snoc]
    · rename_i hi
      rw [e3] at hi
      have e4 : i = 4 := by omega
      subst e4
      have e1 : fixV l = valB (l.take 4) := by rw [fixV, if_pos (by omega)]
      have e2 : decide (4 ≤ l.length) = true := decide_eq_true (by omega)
      rw [e1, e2, ← h2, UInt32.ofNat_toNat]
      exact ⟨rfl, rfl⟩
instance {a : AV} {l : List UInt8} {m : SM} [h : IsL a byt 1 l m] : PC Go.Proofs.Try.prog 56 [a] (l.length ≤ 1000000000000000) (.tuple [W32 (UInt32.ofNat (fixV l)), B (decide (4 ≤ l.length))]) := ⟨fun hl => ⟨[.lst 1 (l.map byt) m], ⟨h.sub, trivial⟩, codec_Fixed_ok l m hl⟩⟩
theorem ref01_Fixed_ok (l : List UInt8) (hl : l.length ≤ 1000000000000000) : aPure Go.Proofs.Try.prog 59 [S l] (.tuple [W32 (UInt32.ofNat (fixV l)), B (decide (4 ≤ l.length))]) := by
  refine ref01_Fixed.go ?_
  unfold ref01_Fixed.sh
  repeat' (first | with_reducible apply Stp.go | with_reducible refine imp fun _ => ?_ | (with_reducible refine hyp ?_ ?_; first | assumption | exact leftT_mem (by assumption)) | (with_reducible refine need ?_ ?_; first | trivial | omega | (simp only [List.length_append, List.length_cons, List.length_nil, List.length_map, List.length_take, List.length_drop, List.length_replicate]; omega)) | (with_reducible refine fact ?_ ?_; first | trivial | exact ⟨rfl, rfl⟩ | kernel_rfl) | with_reducible refine choT (by assumption) ?_ | with_reducible refine choF (by assumption) ?_ | with_reducible refine choF' (by assumption) ?_ | (with_reducible refine altT ?_ ?_; first | omega | (simp only [List.length_append, List.length_cons, List.length_nil, List.length_map, List.length_take, List.length_drop, List.length_replicate]; omega)) | with_reducible refine altF ?_ | with_reducible refine all fun _ => ?_ | with_reducible refine both ?_ ?_ | (with_reducible refine choT ?_ ?_; omega) | (with_reducible refine choF ?_ ?_; omega) | with_reducible refine cho (fun _ => ?_) (fun _ => ?_))
  · rename_i h
    have e1 : fixV l = 0 := by rw [fixV, if_neg (by omega)]
    have e2 : decide (4 ≤ l.length) = false := decide_eq_false (by omega)
    rw [e1, e2]
    exact ⟨rfl, rfl⟩
  · rename_i h
    obtain ⟨a, b, c, d, r, rfl⟩ : ∃ a b c d r, l = a :: b :: c :: d :: r := by
      match l, h with
      | a :: b :: c :: d :: r, _ => exact ⟨a, b, c, d, r, rfl⟩
      | [], h => simp at h
      | [_], h => simp at h
      | [_, _], h => simp at h
      | [_, _, _], h => simp at h
    have e2 : decide (4 ≤ (a :: b :: c :: d :: r).length) = true := decide_eq_true (by simp)
    have e1 : fixV (a :: b :: c :: d :: r) = ((a.toNat * 256 + b.toNat) * 256 + c.toNat) * 256 + d.toNat := by
      rw [fixV, if_pos (by simp)]
      simp [valB]
    have q0 : ∀ x : UInt8, (a :: b :: c :: d :: r).getD 0 x = a := fun _ => rfl
    have q1 : ∀ x : UInt8, (a :: b :: c :: d :: r).getD 1 x = b := fun _ => rfl
    have q2 : ∀ x : UInt8, (a :: b :: c :: d :: r).getD 2 x = c := fun _ => rfl
    have q3 : ∀ x : UInt8, (a :: b :: c :: d :: r).getD 3 x = d := fun _ => rfl
    rw [q0, q1, q2, q3, e2]
    have ha := UInt8.toNat_lt a
    have hb := UInt8.toNat_lt b
    have hc := UInt8.toNat_lt c
    have hd := UInt8.toNat_lt d
    have s1 := shl_mul (x := UInt32.ofNat a.toNat) (k := 24) (by decide) (by rw [b32]; omega)
    have s2 := shl_mul (x := UInt32.ofNat b.toNat) (k := 16) (by decide) (by rw [b32]; omega)
    have s3 := shl_mul (x := UInt32.ofNat c.toNat) (k := 8) (by decide) (by rw [b32]; omega)
    rw [b32] at s1 s2 s3
    have t1 := or_mul s1 (y := UInt32.ofNat b.toNat <<< UInt32.ofNat 16) (by rw [s2]; omega)
    rw [s2] at t1
    have t2 := or_mul (q := a.toNat * 256 + b.toNat) (k := 16) (t1.trans (by omega)) (y := UInt32.ofNat c.toNat <<< UInt32.ofNat 8) (by rw [s3]; omega)
    rw [s3] at t2
    have t3 := or_mul (q := (a.toNat * 256 + b.toNat) * 256 + c.toNat) (k := 8) (t2.trans (by omega)) (y := UInt32.ofNat d.toNat) (by rw [b32]; omega)
    rw [b32] at t3
    have e3 : UInt32.ofNat (fixV (a :: b :: c :: d :: r)) = UInt32.ofNat a.toNat <<< UInt32.ofNat 24 ||| UInt32.ofNat b.toNat <<< UInt32.ofNat 16 ||| UInt32.ofNat c.toNat <<< UInt32.ofNat 8 ||| UInt32.ofNat d.toNat := by
      rw [e1, ← t3, UInt32.ofNat_toNat]
    rw [e3]
    exact ⟨rfl, rfl⟩
instance {l : List UInt8} : PC Go.Proofs.Try.prog 59 [S l] (l.length ≤ 1000000000000000) (.tuple [W32 (UInt32.ofNat (fixV l)), B (decide (4 ≤ l.length))]) := ⟨fun hl => PC.of (ref01_Fixed_ok l hl)⟩
def bytes_Equal.mark : Mark := ⟨fun t => false, fun t => false, fun t => false, fun t => false, fun t => false⟩
def bytes_Equal.ann : Ann := ⟨fun n => [], fun n => none, fun n => none⟩
/-- 'bytes.Equal' -/
def bytes_Equal.sh (a0 a1 : AV) (σ : Store) (Q : AEnd → Store → Prop) : Prop :=
  Do (aConvBS a0) fun t6 =>
  Do (aConvBS a1) fun t8 =>
  Do (aBin Go.Proofs.Try.prog .eql 9 t6 t8) fun t9 =>
  Q (.ret t9) σ
theorem bytes_Equal.eq (a0 a1 : AV) (σ : Store) (Q : AEnd → Store → Prop) : vc (semOf Go.Proofs.Try.prog bytes_Equal.mark) Go.Proofs.Try.f58.ntmps bytes_Equal.ann (bodyOf Go.Proofs.Try.f58) (endK [.tmp 4] Q) (argFr [a0, a1]) σ = bytes_Equal.sh a0 a1 σ Q := by kernel_rfl
theorem bytes_Equal.go {a0 a1 : AV} {σ : Store} {Q : AEnd → Store → Prop} (h : bytes_Equal.sh a0 a1 σ Q) : ACalls Go.Proofs.Try.prog 58 [a0, a1] σ Q :=
  acalls_of_eq [.tmp 4] Go.Proofs.Try.func58 (by kernel_rfl) (by kernel_rfl) (by kernel_rfl) (by kernel_rfl) (bytes_Equal.eq a0 a1 σ Q) h
def block_Parse.mark : Mark := ⟨fun t => Nat.beq t 20 || Nat.beq t 36 || Nat.beq t 43 || Nat.beq t 51, fun t => false, fun t => false, fun t => false, fun t => false⟩
def block_Parse.ann : Ann := ⟨fun n => [], fun n => none, fun n => none⟩
/-- 'marlstone/block.Parse' -/
def block_Parse.sh (a0 : AV) (σ : Store) (Q : AEnd → Store → Prop) : Prop :=
  Do (aBuiltin Go.Proofs.Try.prog .len #[25] [a0]) fun t12 =>
  Do (aBin Go.Proofs.Try.prog .sub 3 t12 (.val (.int .i64 4))) fun t13 =>
  Do (aBin Go.Proofs.Try.prog .lss 3 t13 (.val (.int .i64 0))) fun t15 =>
  aCond t15
    (Q (.ret (.tuple [(.val (.slice none 0 0)), (.val (.int .i64 2))])) σ)
    (Do (aSlice .slice 1 a0 (some t13) none none) fun t19 =>
  Do (aPureC Go.Proofs.Try.prog 56 [t19]) fun t20 =>
  Do (aExt t20 0) fun t21 =>
  Do (aExt t20 1) fun t22 =>
  Do (fun x => aConvN 59 2 t21 x Go.Proofs.Try.prog) fun t24 =>
  Do (aBin Go.Proofs.Try.prog .quo 3 t13 (.val (.int .i64 4))) fun t26 =>
  Do (aBin Go.Proofs.Try.prog .gtr 2 t24 t26) fun t27 =>
  aCond t27
    (Q (.ret (.tuple [(.val (.slice none 0 0)), (.val (.int .i64 2))])) σ)
    (Do (fun x => aConvN 59 3 t21 x Go.Proofs.Try.prog) fun t32 =>
  Do (aBin Go.Proofs.Try.prog .mul 3 (.val (.int .i64 4)) t32) fun t33 =>
  Do (aBin Go.Proofs.Try.prog .sub 3 t13 t33) fun t34 =>
  Do (aSlice .slice 1 a0 none (some t34) none) fun t35 =>
  Do (aPureC Go.Proofs.Try.prog 57 [t35]) fun t36 =>
  Do (aExt t36 0) fun t37 =>
  Do (aExt t36 1) fun t38 =>
  Do (aUn Go.Proofs.Try.prog .not t38) fun t40 =>
  aCond t40
    (Q (.ret (.tuple [(.val (.slice none 0 0)), (.val (.int .i64 2))])) σ)
    (Do (aPureC Go.Proofs.Try.prog 20 [t37]) fun t43 =>
  Do (aExt t43 0) fun t44 =>
  Do (aExt t43 1) fun t45 =>
  Do (aBin Go.Proofs.Try.prog .neq 26 t45 (.val (.int .i64 0))) fun t47 =>
  Do (aGuard t47 false (aIs t44)) fun t49 =>
  Do (aGuard t47 false (aIs a0)) fun t50 =>
  Do (aGuard t47 false (aPureC Go.Proofs.Try.prog 58 [t49, t50])) fun t51 =>
  Do (aGuard t47 false (aUn Go.Proofs.Try.prog .not t51)) fun t52 =>
  Do (aPick t47 (.val (.bool true)) t52) fun t53 =>
  aCond t53
    (Q (.ret (.tuple [(.val (.slice none 0 0)), (.val (.int .i64 2))])) σ)
    (Q (.ret (.tuple [t37, (.val (.int .i64 0))])) σ))))
theorem block_Parse.eq (a0 : AV) (σ : Store) (Q : AEnd → Store → Prop) : vc (semOf Go.Proofs.Try.prog block_Parse.mark) Go.Proofs.Try.f25.ntmps block_Parse.ann (bodyOf Go.Proofs.Try.f25) (endK [.tmp 2, .tmp 3] Q) (argFr [a0]) σ = block_Parse.sh a0 σ Q := by kernel_rfl
theorem block_Parse.go {a0 : AV} {σ : Store} {Q : AEnd → Store → Prop} (h : block_Parse.sh a0 σ Q) : ACalls Go.Proofs.Try.prog 25 [a0] σ Q :=
  acalls_of_eq [.tmp 2, .tmp 3] Go.Proofs.Try.func25 (by kernel_rfl) (by kernel_rfl) (by kernel_rfl) (by kernel_rfl) (block_Parse.eq a0 σ Q) h
def ref04_Parse.mark : Mark := ⟨fun t => Nat.beq t 19 || Nat.beq t 40 || Nat.beq t 47, fun t => false, fun t => false, fun t => false, fun t => false⟩
def ref04_Parse.ann : Ann := ⟨fun n => [], fun n => none, fun n => none⟩
/-- 'marlstone/marlstoneref04.Parse' -/
def ref04_Parse.sh (a0 : AV) (σ : Store) (Q : AEnd → Store → Prop) : Prop :=
  Do (aBuiltin Go.Proofs.Try.prog .len #[9] [a0]) fun t11 =>
  Do (aBin Go.Proofs.Try.prog .lss 3 t11 (.val (.int .i64 4))) fun t12 =>
  aCond t12
    (Q (.ret (.tuple [(.val (.slice none 0 0)), (.val (.int .i64 2))])) σ)
    (Do (aBuiltin Go.Proofs.Try.prog .len #[9] [a0]) fun t16 =>
  Do (aBin Go.Proofs.Try.prog .sub 3 t16 (.val (.int .i64 4))) fun t17 =>
  Do (aSlice .string 1 a0 (some t17) none none) fun t18 =>
  Do (aPureC Go.Proofs.Try.prog 59 [t18]) fun t19 =>
  Do (aExt t19 0) fun t20 =>
  Do (aExt t19 1) fun t21 =>
  Do (fun x => aConvN 59 63 t20 x Go.Proofs.Try.prog) fun t23 =>
  Do (aBuiltin Go.Proofs.Try.prog .len #[9] [a0]) fun t25 =>
  Do (aBin Go.Proofs.Try.prog .sub 3 t25 (.val (.int .i64 4))) fun t26 =>
  Do (fun x => aConvN 3 63 t26 x Go.Proofs.Try.prog) fun t27 =>
  Do (aBin Go.Proofs.Try.prog .quo 63 t27 (W64 4)) fun t28 =>
  Do (aBin Go.Proofs.Try.prog .gtr 63 t23 t28) fun t29 =>
  aCond t29
    (Q (.ret (.tuple [(.val (.slice none 0 0)), (.val (.int .i64 2))])) σ)
    (Do (aBuiltin Go.Proofs.Try.prog .len #[9] [a0]) fun t33 =>
  Do (aBin Go.Proofs.Try.prog .sub 3 t33 (.val (.int .i64 4))) fun t34 =>
  Do (fun x => aConvN 59 3 t20 x Go.Proofs.Try.prog) fun t36 =>
  Do (aBin Go.Proofs.Try.prog .mul 3 (.val (.int .i64 4)) t36) fun t37 =>
  Do (aBin Go.Proofs.Try.prog .sub 3 t34 t37) fun t38 =>
  Do (aSlice .string 1 a0 none (some t38) none) fun t39 =>
  Do (aPureC Go.Proofs.Try.prog 60 [t39]) fun t40 =>
  Do (aExt t40 0) fun t41 =>
  Do (aExt t40 1) fun t42 =>
  Do (aUn Go.Proofs.Try.prog .not t42) fun t44 =>
  aCond t44
    (Q (.ret (.tuple [(.val (.slice none 0 0)), (.val (.int .i64 2))])) σ)
    (Do (aPureC Go.Proofs.Try.prog 21 [t41]) fun t47 =>
  Do (aExt t47 0) fun t48 =>
  Do (aExt t47 1) fun t49 =>
  Do (aBin Go.Proofs.Try.prog .neq 26 t49 (.val (.int .i64 0))) fun t51 =>
  Do (aGuard t51 false (aIs t48)) fun t53 =>
  Do (aGuard t51 false (aIs a0)) fun t54 =>
  Do (aGuard t51 false (aBin Go.Proofs.Try.prog .neq 9 t53 t54)) fun t55 =>
  Do (aPick t51 (.val (.bool true)) t55) fun t56 =>
  aCond t56
    (Q (.ret (.tuple [(.val (.slice none 0 0)), (.val (.int .i64 2))])) σ)
    (Q (.ret (.tuple [t41, (.val (.int .i64 0))])) σ))))
theorem ref04_Parse.eq (a0 : AV) (σ : Store) (Q : AEnd → Store → Prop) : vc (semOf Go.Proofs.Try.prog ref04_Parse.mark) Go.Proofs.Try.f26.ntmps ref04_Parse.ann (bodyOf Go.Proofs.Try.f26) (endK [.tmp 2, .tmp 3] Q) (argFr [a0]) σ = ref04_Parse.sh a0 σ Q := by kernel_rfl
theorem ref04_Parse.go {a0 : AV} {σ : Store} {Q : AEnd → Store → Prop} (h : ref04_Parse.sh a0 σ Q) : ACalls Go.Proofs.Try.prog 26 [a0] σ Q :=
  acalls_of_eq [.tmp 2, .tmp 3] Go.Proofs.Try.func26 (by kernel_rfl) (by kernel_rfl) (by kernel_rfl) (by kernel_rfl) (ref04_Parse.eq a0 σ Q) h
theorem bytes_Equal_ok (a b : List UInt8) (m n : SM) : aPure Go.Proofs.Try.prog 58 [.lst 1 (a.map byt) m, .lst 1 (b.map byt) n] (B (decide (a = b))) := by
  refine bytes_Equal.go ?_
  unfold bytes_Equal.sh
  repeat' (first | with_reducible apply Stp.go | with_reducible refine imp fun _ => ?_ | (with_reducible refine hyp ?_ ?_; first | assumption | exact leftT_mem (by assumption)) | (with_reducible refine need ?_ ?_; first | trivial | omega | (simp only [List.length_append, List.length_cons, List.length_nil, List.length_map, List.length_take, List.length_drop, List.length_replicate]; omega)) | (with_reducible refine fact ?_ ?_; first | trivial | exact ⟨rfl, rfl⟩ | kernel_rfl) | with_reducible refine choT (by assumption) ?_ | with_reducible refine choF (by assumption) ?_ | with_reducible refine choF' (by assumption) ?_ | (with_reducible refine altT ?_ ?_; first | omega | (simp only [List.length_append, List.length_cons, List.length_nil, List.length_map, List.length_take, List.length_drop, List.length_replicate]; omega)) | with_reducible refine altF ?_ | with_reducible refine all fun _ => ?_ | with_reducible refine both ?_ ?_ | (with_reducible refine choT ?_ ?_; omega) | (with_reducible refine choF ?_ ?_; omega) | with_reducible refine cho (fun _ => ?_) (fun _ => ?_))
  exact ⟨rfl, rfl⟩
instance {x y : AV} {a b : List UInt8} {m n : SM} [h : IsL x byt 1 a m] [k : IsL y byt 1 b n] : PC Go.Proofs.Try.prog 58 [x, y] True (B (decide (a = b))) := ⟨fun _ => ⟨[.lst 1 (a.map byt) m, .lst 1 (b.map byt) n], ⟨h.sub, k.sub, trivial⟩, bytes_Equal_ok a b m n⟩⟩
/-- What stands in a block. -/
def blkG (b : List UInt8) : Option (List En) :=
  if b.length < 4 then none
  else if (b.length - 4) / 4 < fixV (b.drop (b.length - 4)) then none
  else match entsG (b.take (b.length - 4 - 4 * fixV (b.drop (b.length - 4)))) with
    | none => none
    | some l => if fit l = true ∧ blockBytes l = b then some l else none
def blkV (b : List UInt8) : List En := (blkG b).getD []
def blkX (b : List UInt8) : Int := if (blkG b).isSome = true then 0 else 2
theorem blk_fail {b : List UInt8} {σ : Store} (h : blkG b = none) : ∃ u u1 τ, AEnd.ret (.tuple [.val (.slice none 0 0), I .i64 2]) = .ret u ∧ Sub σ [u] τ [u1] ∧ AEnd.ret u1 = .ret (.tuple [.lst 4 ((blkV b).map En.av) .ro, I .i64 (blkX b)]) ∧ τ = [] :=
  ⟨_, _, _, rfl, Sub.tuple (retNil En.av (sz := 4) (by decide) (Sub.app_nil _)), by simp [blkV, blkX, h], rfl⟩
theorem block_Parse_ok (b : List UInt8) (m : SM) (hl : b.length ≤ 1000000000) : aPure Go.Proofs.Try.prog 25 [.lst 1 (b.map byt) m] (.tuple [.lst 4 ((blkV b).map En.av) .ro, I .i64 (blkX b)]) := by
  refine ACalls.fin (block_Parse.go ?_)
  unfold block_Parse.sh
  have hf := fixV_lt (b.drop (b.length - 4))
  have hev := fun s => entsV_len s
  have hfm : fixV (b.drop (b.length - 4)) % 4294967296 = fixV (b.drop (b.length - 4)) := Nat.mod_eq_of_lt hf
  by_cases h4 : b.length < 4
  · repeat' (first | with_reducible apply Stp.go | with_reducible refine imp fun _ => ?_ | (with_reducible refine hyp ?_ ?_; first | assumption | exact leftT_mem (by assumption)) | (with_reducible refine need ?_ ?_; first | trivial | omega | (simp only [List.length_append, List.length_cons, List.length_nil, List.length_map, List.length_take, List.length_drop, List.length_replicate]; omega)) | (with_reducible refine fact ?_ ?_; first | trivial | exact ⟨rfl, rfl⟩ | kernel_rfl) | with_reducible refine choT (by assumption) ?_ | with_reducible refine choF (by assumption) ?_ | with_reducible refine choF' (by assumption) ?_ | (with_reducible refine altT ?_ ?_; first | omega | (simp only [List.length_append, List.length_cons, List.length_nil, List.length_map, List.length_take, List.length_drop, List.length_replicate]; omega)) | with_reducible refine altF ?_ | with_reducible refine all fun _ => ?_ | with_reducible refine both ?_ ?_ | (with_reducible refine choT ?_ ?_; omega) | (with_reducible refine choF ?_ ?_; omega) | with_reducible refine cho (fun _ => ?_) (fun _ => ?_))
    exact blk_fail (by rw [blkG, if_pos h4])
  · repeat' (first | with_reducible apply Stp.go | with_reducible refine imp fun _ => ?_ | (with_reducible refine hyp ?_ ?_; first | assumption | exact leftT_mem (by assumption)) | (with_reducible refine need ?_ ?_; first | trivial | omega | (simp only [List.length_append, List.length_cons, List.length_nil, List.length_map, List.length_take, List.length_drop, List.length_replicate]; omega)) | (with_reducible refine fact ?_ ?_; first | trivial | exact ⟨rfl, rfl⟩ | kernel_rfl) | with_reducible refine choT (by assumption) ?_ | with_reducible refine choF (by assumption) ?_ | with_reducible refine choF' (by assumption) ?_ | (with_reducible refine altT ?_ ?_; first | omega | (simp only [List.length_append, List.length_cons, List.length_nil, List.length_map, List.length_take, List.length_drop, List.length_replicate]; omega)) | with_reducible refine altF ?_ | with_reducible refine all fun _ => ?_ | with_reducible refine both ?_ ?_ | (with_reducible refine choT ?_ ?_; omega) | (with_reducible refine choF ?_ ?_; omega) | with_reducible refine cho (fun _ => ?_) (fun _ => ?_))
    · rename_i h5
      rw [hfm] at h5
      exact blk_fail (by rw [blkG, if_neg h4, if_pos h5])
    · rename_i h5 h6
      rw [hfm] at h5 h6 ⊢
      refine need (Nat.le_trans (hev _) (by decide)) ?_
      obtain ⟨l, hG⟩ : ∃ l, entsG (b.take (b.length - 4 - 4 * fixV (b.drop (b.length - 4)))) = some l := Option.isSome_iff_exists.1 h6
      have e : entsV (b.take (b.length - 4 - 4 * fixV (b.drop (b.length - 4)))) = l := by rw [entsV, hG]; rfl
      rw [e]
      have hB : blkG b = if fit l = true ∧ blockBytes l = b then some l else none := by rw [blkG, if_neg h4, if_neg h5, hG]
      by_cases hfit : fit l = true
      · have e1 : blkB l = blockBytes l := by rw [blkB, if_pos hfit]
        have e2 : blkE l = 0 := by rw [blkE, if_pos hfit]
        rw [e1, e2]
        repeat' (first | with_reducible apply Stp.go | with_reducible refine imp fun _ => ?_ | (with_reducible refine hyp ?_ ?_; first | assumption | exact leftT_mem (by assumption)) | (with_reducible refine need ?_ ?_; first | trivial | omega | (simp only [List.length_append, List.length_cons, List.length_nil, List.length_map, List.length_take, List.length_drop, List.length_replicate]; omega)) | (with_reducible refine fact ?_ ?_; first | trivial | exact ⟨rfl, rfl⟩ | kernel_rfl) | with_reducible refine choT (by assumption) ?_ | with_reducible refine choF (by assumption) ?_ | with_reducible refine choF' (by assumption) ?_ | (with_reducible refine altT ?_ ?_; first | omega | (simp only [List.length_append, List.length_cons, List.length_nil, List.length_map, List.length_take, List.length_drop, List.length_replicate]; omega)) | with_reducible refine altF ?_ | with_reducible refine all fun _ => ?_ | with_reducible refine both ?_ ?_ | (with_reducible refine choT ?_ ?_; omega) | (with_reducible refine choF ?_ ?_; omega) | with_reducible refine cho (fun _ => ?_) (fun _ => ?_))
        · rename_i h7
          exact ⟨_, _, _, rfl, Sub.tuple (retLst (Sub.refl _ _)), by simp [blkV, blkX, hB, hfit, h7], rfl⟩
        · rename_i h7
          exact blk_fail (by rw [hB, if_neg fun h => h7 h.2])
      · have e2 : blkE l = 1 := by rw [blkE, if_neg hfit]
        rw [e2]
        repeat' (first | with_reducible apply Stp.go | with_reducible refine imp fun _ => ?_ | (with_reducible refine hyp ?_ ?_; first | assumption | exact leftT_mem (by assumption)) | (with_reducible refine need ?_ ?_; first | trivial | omega | (simp only [List.length_append, List.length_cons, List.length_nil, List.length_map, List.length_take, List.length_drop, List.length_replicate]; omega)) | (with_reducible refine fact ?_ ?_; first | trivial | exact ⟨rfl, rfl⟩ | kernel_rfl) | with_reducible refine choT (by assumption) ?_ | with_reducible refine choF (by assumption) ?_ | with_reducible refine choF' (by assumption) ?_ | (with_reducible refine altT ?_ ?_; first | omega | (simp only [List.length_append, List.length_cons, List.length_nil, List.length_map, List.length_take, List.length_drop, List.length_replicate]; omega)) | with_reducible refine altF ?_ | with_reducible refine all fun _ => ?_ | with_reducible refine both ?_ ?_ | (with_reducible refine choT ?_ ?_; omega) | (with_reducible refine choF ?_ ?_; omega) | with_reducible refine cho (fun _ => ?_) (fun _ => ?_))
        exact blk_fail (by rw [hB, if_neg fun h => hfit h.1])
    · rename_i h5 h6
      rw [hfm] at h5 h6
      have hG : entsG (b.take (b.length - 4 - 4 * fixV (b.drop (b.length - 4)))) = none := by
        cases h : entsG (b.take (b.length - 4 - 4 * fixV (b.drop (b.length - 4)))) with
        | none => rfl
        | some l => rw [entsO, h] at h6; exact absurd rfl h6
      exact blk_fail (by rw [blkG, if_neg h4, if_neg h5, hG])
instance {a : AV} {l : List UInt8} {m : SM} [h : IsL a byt 1 l m] : PC Go.Proofs.Try.prog 25 [a] (l.length ≤ 1000000000) (.tuple [.lst 4 ((blkV l).map En.av) .ro, I .i64 (blkX l)]) := ⟨fun hl => ⟨[.lst 1 (l.map byt) m], ⟨h.sub, trivial⟩, block_Parse_ok l m hl⟩⟩
theorem ref04_Parse_ok (b : List UInt8) (hl : b.length ≤ 1000000000) : aPure Go.Proofs.Try.prog 26 [S b] (.tuple [.lst 4 ((blkV b).map En.av) .ro, I .i64 (blkX b)]) := by
  refine ACalls.fin (ref04_Parse.go ?_)
  unfold ref04_Parse.sh
  have hf := fixV_lt (b.drop (b.length - 4))
  have hev := fun s => entsV_len s
  have hfm : fixV (b.drop (b.length - 4)) % 4294967296 = fixV (b.drop (b.length - 4)) := Nat.mod_eq_of_lt hf
  have hdv : (UInt64.ofNat (b.length - 4) / 4).toNat = (b.length - 4) / 4 := by
    rw [UInt64.toNat_div, u64_len (by omega)]; rfl
  have hmm : fixV (b.drop (b.length - 4)) % 4294967296 % 18446744073709551616 = fixV (b.drop (b.length - 4)) := by omega
  repeat' (first | with_reducible apply Stp.go | with_reducible refine imp fun _ => ?_ | (with_reducible refine hyp ?_ ?_; first | assumption | exact leftT_mem (by assumption)) | (with_reducible refine need ?_ ?_; first | trivial | omega | (simp only [List.length_append, List.length_cons, List.length_nil, List.length_map, List.length_take, List.length_drop, List.length_replicate]; omega)) | (with_reducible refine fact ?_ ?_; first | trivial | exact ⟨rfl, rfl⟩ | kernel_rfl) | with_reducible refine choT (by assumption) ?_ | with_reducible refine choF (by assumption) ?_ | with_reducible refine choF' (by assumption) ?_ | (with_reducible refine altT ?_ ?_; first | omega | (simp only [List.length_append, List.length_cons, List.length_nil, List.length_map, List.length_take, List.length_drop, List.length_replicate]; omega)) | with_reducible refine altF ?_ | with_reducible refine all fun _ => ?_ | with_reducible refine both ?_ ?_ | (with_reducible refine choT ?_ ?_; omega) | (with_reducible refine choF ?_ ?_; omega) | with_reducible refine cho (fun _ => ?_) (fun _ => ?_))
  · rename_i h4
    exact blk_fail (by rw [blkG, if_pos h4])
  · rename_i h4 h5
    rw [hmm, hdv] at h5
    exact blk_fail (by rw [blkG, if_neg h4, if_pos h5])
  · rename_i h4 h5 h6
    rw [hmm, hdv] at h5
    rw [hfm] at h6 ⊢
    refine need (Nat.le_trans (hev _) (by decide)) ?_
    obtain ⟨l, hG⟩ : ∃ l, entsG (b.take (b.length - 4 - 4 * fixV (b.drop (b.length - 4)))) = some l := Option.isSome_iff_exists.1 h6
    have e : entsV (b.take (b.length - 4 - 4 * fixV (b.drop (b.length - 4)))) = l := by rw [entsV, hG]; rfl
    rw [e]
    have hB : blkG b = if fit l = true ∧ blockBytes l = b then some l else none := by rw [blkG, if_neg h4, if_neg h5, hG]
    by_cases hfit : fit l = true
    · have e1 : blkB l = blockBytes l := by rw [blkB, if_pos hfit]
      have e2 : blkE l = 0 := by rw [blkE, if_pos hfit]
      rw [e1, e2]
      repeat' (first | with_reducible apply Stp.go | with_reducible refine imp fun _ => ?_ | (with_reducible refine hyp ?_ ?_; first | assumption | exact leftT_mem (by assumption)) | (with_reducible refine need ?_ ?_; first | trivial | omega | (simp only [List.length_append, List.length_cons, List.length_nil, List.length_map, List.length_take, List.length_drop, List.length_replicate]; omega)) | (with_reducible refine fact ?_ ?_; first | trivial | exact ⟨rfl, rfl⟩ | kernel_rfl) | with_reducible refine choT (by assumption) ?_ | with_reducible refine choF (by assumption) ?_ | with_reducible refine choF' (by assumption) ?_ | (with_reducible refine altT ?_ ?_; first | omega | (simp only [List.length_append, List.length_cons, List.length_nil, List.length_map, List.length_take, List.length_drop, List.length_replicate]; omega)) | with_reducible refine altF ?_ | with_reducible refine all fun _ => ?_ | with_reducible refine both ?_ ?_ | (with_reducible refine choT ?_ ?_; omega) | (with_reducible refine choF ?_ ?_; omega) | with_reducible refine cho (fun _ => ?_) (fun _ => ?_))
      · rename_i h7
        exact ⟨_, _, _, rfl, Sub.tuple (retLst (Sub.refl _ _)), by simp [blkV, blkX, hB, hfit, h7], rfl⟩
      · rename_i h7
        exact blk_fail (by rw [hB, if_neg fun h => h7 h.2])
    · have e2 : blkE l = 1 := by rw [blkE, if_neg hfit]
      rw [e2]
      repeat' (first | with_reducible apply Stp.go | with_reducible refine imp fun _ => ?_ | (with_reducible refine hyp ?_ ?_; first | assumption | exact leftT_mem (by assumption)) | (with_reducible refine need ?_ ?_; first | trivial | omega | (simp only [List.length_append, List.length_cons, List.length_nil, List.length_map, List.length_take, List.length_drop, List.length_replicate]; omega)) | (with_reducible refine fact ?_ ?_; first | trivial | exact ⟨rfl, rfl⟩ | kernel_rfl) | with_reducible refine choT (by assumption) ?_ | with_reducible refine choF (by assumption) ?_ | with_reducible refine choF' (by assumption) ?_ | (with_reducible refine altT ?_ ?_; first | omega | (simp only [List.length_append, List.length_cons, List.length_nil, List.length_map, List.length_take, List.length_drop, List.length_replicate]; omega)) | with_reducible refine altF ?_ | with_reducible refine all fun _ => ?_ | with_reducible refine both ?_ ?_ | (with_reducible refine choT ?_ ?_; omega) | (with_reducible refine choF ?_ ?_; omega) | with_reducible refine cho (fun _ => ?_) (fun _ => ?_))
      exact blk_fail (by rw [hB, if_neg fun h => hfit h.1])
  · rename_i h4 h5 h6
    rw [hmm, hdv] at h5
    rw [hfm] at h6
    have hG : entsG (b.take (b.length - 4 - 4 * fixV (b.drop (b.length - 4)))) = none := by
      cases h : entsG (b.take (b.length - 4 - 4 * fixV (b.drop (b.length - 4)))) with
      | none => rfl
      | some l => rw [entsO, h] at h6; exact absurd rfl h6
    exact blk_fail (by rw [blkG, if_neg h4, if_neg h5, hG])
instance {l : List UInt8} : PC Go.Proofs.Try.prog 26 [S l] (l.length ≤ 1000000000) (.tuple [.lst 4 ((blkV l).map En.av) .ro, I .i64 (blkX l)]) := ⟨fun hl => PC.of (ref04_Parse_ok l hl)⟩
end Go.Ab
