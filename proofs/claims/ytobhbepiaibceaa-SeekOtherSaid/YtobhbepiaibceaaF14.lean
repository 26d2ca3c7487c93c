/- Reading numbers and texts. -/
import Derived.Test.YtobhbepiaibceaaF13
import Derived.Test.YtobhbepiaibceaaSp6
set_option linter.unusedVariables false
set_option linter.unusedSimpArgs false
namespace Go.Ab
def codec_Get.mark : Mark := ⟨fun t => false, fun t => false, fun t => false, fun t => Nat.beq t 18, fun t => false⟩
def codec_Get.ann : Ann := ⟨fun n => bif Nat.beq n 3 then [5, 12, 13, 14] else [], fun n => none, fun n => none⟩
/-- 'marlstone/codec.Get' -/
def codec_Get.sh (a0 : AV) (σ : Store) (Q : AEnd → Store → Prop) : Prop :=
  Do (aBuiltin Go.Proofs.Try.prog .len #[27] [a0]) fun t10 =>
  Do (aBuiltin Go.Proofs.Try.prog .min #[3, 3] [t10, (.val (.int .i64 10))]) fun t11 =>
  Do (aSlice .slice 1 a0 none (some t11) none) fun t12 =>
  Do (aBuiltin Go.Proofs.Try.prog .len #[27] [t12]) fun t13 =>
  aLoop (fun go vs σ =>
    At vs 0 fun s5 => At vs 1 fun s12 => At vs 2 fun s13 => At vs 3 fun s14 => Do (aBin Go.Proofs.Try.prog .lss 3 s14 s13) fun t15 =>
    aCond t15
      (Do (aIndexAddr .slice 1 s12 s14) fun t17 =>
    Do (loadF false 1 t17) fun t18 =>
    Do (aBin Go.Proofs.Try.prog .eql 3 s14 (.val (.int .i64 9))) fun t20 =>
    Do (aGuard t20 true (aIs t18)) fun t22 =>
    Do (aGuard t20 true (aBin Go.Proofs.Try.prog .gtr 5 t22 (W8 1))) fun t23 =>
    Do (aPick t20 t23 (.val (.bool false))) fun t24 =>
    Do (aGuard t24 false (aIs s14)) fun t26 =>
    Do (aGuard t24 false (aBin Go.Proofs.Try.prog .gtr 3 t26 (.val (.int .i64 0)))) fun t27 =>
    Do (aGuard t24 false (aIs t27)) fun t28 =>
    Do (aGuard t28 true (aIs t18)) fun t29 =>
    Do (aGuard t28 true (aBin Go.Proofs.Try.prog .eql 5 t29 (W8 0))) fun t30 =>
    Do (aGuard t24 false (aPick t28 t30 (.val (.bool false)))) fun t31 =>
    Do (aPick t24 (.val (.bool true)) t31) fun t32 =>
    aCond t32
      (Q (.ret (.tuple [(W64 0), (.val (.int .i64 0)), (.val (.bool false))])) σ)
      (Do (aBin Go.Proofs.Try.prog .and 5 t18 (W8 127)) fun t35 =>
    Do (fun x => aConvN 5 143 t35 x Go.Proofs.Try.prog) fun t36 =>
    Do (aBin Go.Proofs.Try.prog .mul 3 (.val (.int .i64 7)) s14) fun t38 =>
    Do (aBin Go.Proofs.Try.prog .shl 143 t36 t38) fun t39 =>
    Do (aBin Go.Proofs.Try.prog .or 143 s5 t39) fun t40 =>
    Do (aBin Go.Proofs.Try.prog .lss 5 t18 (W8 128)) fun t42 =>
    aCond t42
      (Do (aBin Go.Proofs.Try.prog .add 3 s14 (.val (.int .i64 1))) fun t45 =>
      Q (.ret (.tuple [t40, t45, (.val (.bool true))])) σ)
      (Do (aBin Go.Proofs.Try.prog .add 3 s14 (.val (.int .i64 1))) fun t46 =>
    go [t40, s12, s13, t46] σ)))
      (Q (.ret (.tuple [(W64 0), (.val (.int .i64 0)), (.val (.bool false))])) σ))
    [(W64 0), t12, t13, (.val (.int .i64 0))] σ
theorem codec_Get.eq (a0 : AV) (σ : Store) (Q : AEnd → Store → Prop) : vc (semOf Go.Proofs.Try.prog codec_Get.mark) Go.Proofs.Try.f128.ntmps codec_Get.ann (bodyOf Go.Proofs.Try.f128) (endK [.tmp 2, .tmp 3, .tmp 4] Q) (argFr [a0]) σ = codec_Get.sh a0 σ Q := by kernel_rfl
theorem codec_Get.go {a0 : AV} {σ : Store} {Q : AEnd → Store → Prop} (h : codec_Get.sh a0 σ Q) : ACalls Go.Proofs.Try.prog 128 [a0] σ Q :=
  acalls_of_eq [.tmp 2, .tmp 3, .tmp 4] Go.Proofs.Try.func128 (by kernel_rfl) (by kernel_rfl) (by kernel_rfl) (by kernel_rfl) (codec_Get.eq a0 σ Q) h
def ref01_Get.mark : Mark := ⟨fun t => false, fun t => false, fun t => false, fun t => false, fun t => false⟩
def ref01_Get.ann : Ann := ⟨fun n => bif Nat.beq n 3 then [0, 5, 6] else [], fun n => none, fun n => none⟩
/-- 'marlstone/marlstoneref01.Get' -/
def ref01_Get.sh (a0 : AV) (σ : Store) (Q : AEnd → Store → Prop) : Prop :=
  aLoop (fun go vs σ =>
    At vs 0 fun s0 => At vs 1 fun s5 => At vs 2 fun s6 => Do (aBuiltin Go.Proofs.Try.prog .len #[9] [s0]) fun t9 =>
    Do (aBin Go.Proofs.Try.prog .lss 3 s6 t9) fun t10 =>
    Do (aGuard t10 true (aIs s6)) fun t12 =>
    Do (aGuard t10 true (aBin Go.Proofs.Try.prog .lss 3 t12 (.val (.int .i64 10)))) fun t13 =>
    Do (aPick t10 t13 (.val (.bool false))) fun t14 =>
    aCond t14
      (Do (aBin Go.Proofs.Try.prog .eql 3 s6 (.val (.int .i64 9))) fun t18 =>
    Do (aGuard t18 true (aIs s0)) fun t20 =>
    Do (aGuard t18 true (aIs s6)) fun t21 =>
    Do (aGuard t18 true (aIndex .string false 1 t20 t21)) fun t22 =>
    Do (aGuard t18 true (aBin Go.Proofs.Try.prog .gtr 5 t22 (W8 1))) fun t23 =>
    Do (aPick t18 t23 (.val (.bool false))) fun t24 =>
    aCond t24
      (Q (.ret (.tuple [(W64 0), (.val (.int .i64 0)), (.val (.bool false))])) σ)
      (Do (aIndex .string false 1 s0 s6) fun t28 =>
    Do (aBin Go.Proofs.Try.prog .rem 5 t28 (W8 128)) fun t29 =>
    Do (fun x => aConvN 5 143 t29 x Go.Proofs.Try.prog) fun t30 =>
    Do (aBin Go.Proofs.Try.prog .mul 3 (.val (.int .i64 7)) s6) fun t32 =>
    Do (fun x => aConvN 3 149 t32 x Go.Proofs.Try.prog) fun t33 =>
    Do (aBin Go.Proofs.Try.prog .shl 143 t30 t33) fun t34 =>
    Do (aBin Go.Proofs.Try.prog .or 143 s5 t34) fun t35 =>
    Do (aIndex .string false 1 s0 s6) fun t38 =>
    Do (aBin Go.Proofs.Try.prog .lss 5 t38 (W8 128)) fun t39 =>
    aCond t39
      (Do (aBin Go.Proofs.Try.prog .gtr 3 s6 (.val (.int .i64 0))) fun t41 =>
      Do (aGuard t41 true (aIs s0)) fun t43 =>
      Do (aGuard t41 true (aIs s6)) fun t44 =>
      Do (aGuard t41 true (aIndex .string false 1 t43 t44)) fun t45 =>
      Do (aGuard t41 true (aBin Go.Proofs.Try.prog .eql 5 t45 (W8 0))) fun t46 =>
      Do (aPick t41 t46 (.val (.bool false))) fun t47 =>
      aCond t47
        (Q (.ret (.tuple [(W64 0), (.val (.int .i64 0)), (.val (.bool false))])) σ)
        (Do (aBin Go.Proofs.Try.prog .add 3 s6 (.val (.int .i64 1))) fun t50 =>
      Q (.ret (.tuple [t35, t50, (.val (.bool true))])) σ))
      (Do (aBin Go.Proofs.Try.prog .add 3 s6 (.val (.int .i64 1))) fun t16 =>
    go [s0, t35, t16] σ)))
      (Q (.ret (.tuple [(W64 0), (.val (.int .i64 0)), (.val (.bool false))])) σ))
    [a0, (W64 0), (.val (.int .i64 0))] σ
theorem ref01_Get.eq (a0 : AV) (σ : Store) (Q : AEnd → Store → Prop) : vc (semOf Go.Proofs.Try.prog ref01_Get.mark) Go.Proofs.Try.f117.ntmps ref01_Get.ann (bodyOf Go.Proofs.Try.f117) (endK [.tmp 2, .tmp 3, .tmp 4] Q) (argFr [a0]) σ = ref01_Get.sh a0 σ Q := by kernel_rfl
theorem ref01_Get.go {a0 : AV} {σ : Store} {Q : AEnd → Store → Prop} (h : ref01_Get.sh a0 σ Q) : ACalls Go.Proofs.Try.prog 117 [a0] σ Q :=
  acalls_of_eq [.tmp 2, .tmp 3, .tmp 4] Go.Proofs.Try.func117 (by kernel_rfl) (by kernel_rfl) (by kernel_rfl) (by kernel_rfl) (ref01_Get.eq a0 σ Q) h
theorem getT (s : List UInt8) {i : Nat} (h : i < s.length) (v : Nat) : getA (s.drop i) i v = (if 10 ≤ i ∨ (i = 9 ∧ 1 < (s.getD i 0).toNat) ∨ (0 < i ∧ (s.getD i 0).toNat = 0) then none
    else if (s.getD i 0).toNat < 128 then some (v + (s.getD i 0).toNat % 128 * 128 ^ i, i + 1) else getA (s.drop (i + 1)) (i + 1) (v + (s.getD i 0).toNat % 128 * 128 ^ i)) := by
  have e := drop_cons_d h
  have e2 : s.getD i default = s.getD i 0 := rfl
  rw [e, e2, getA]
theorem g_fail {l : List UInt8} (h : getG l = none) : AEnd.ret (.tuple [W64 0, I .i64 0, B false]) = .ret (.tuple [W64 (UInt64.ofNat (getV l)), I .i64 (getN l : Nat), B (getO l)]) := by
  simp [getV, getN, getO, h]
theorem g_done {l : List UInt8} {x : UInt64} {n : Nat} (h : getG l = some (x.toNat, n)) : AEnd.ret (.tuple [W64 x, I .i64 (n : Nat), B true]) = .ret (.tuple [W64 (UInt64.ofNat (getV l)), I .i64 (getN l : Nat), B (getO l)]) := by
  simp [getV, getN, getO, h]
theorem and127 (c : UInt8) : (c &&& 127).toNat = c.toNat % 128 := by
  rw [UInt8.toNat_and]
  exact Nat.and_two_pow_sub_one_eq_mod c.toNat 7
theorem pow_step {v c i : Nat} (hv : v < 128 ^ i) (hc : c < 128) : v + c * 128 ^ i < 128 ^ (i + 1) := by
  have h1 : c * 128 ^ i ≤ 127 * 128 ^ i := Nat.mul_le_mul_right _ (by omega)
  rw [Nat.pow_succ]
  omega
theorem codec_Get_ok (l : List UInt8) (m : SM) (hl : l.length ≤ 1000000000000000) : aPure Go.Proofs.Try.prog 128 [.lst 1 (l.map byt) m] (.tuple [W64 (UInt64.ofNat (getV l)), I .i64 (getN l : Nat), B (getO l)]) := by
  refine codec_Get.go ?_
  unfold codec_Get.sh
  repeat' (first | with_reducible apply Stp.go | with_reducible refine imp fun _ => ?_ | (with_reducible refine hyp ?_ ?_; first | assumption | exact leftT_mem (by assumption)) | (with_reducible refine need ?_ ?_; first | trivial | omega | exact ⟨by assumption, by omega⟩ | (simp only [List.length_append, List.length_cons, List.length_nil, List.length_map, List.length_take, List.length_drop, List.length_replicate, List.length_set]; omega)) | (with_reducible refine fact ?_ ?_; first | trivial | exact ⟨rfl, rfl⟩ | kernel_rfl) | with_reducible refine choT (by assumption) ?_ | with_reducible refine choF (by assumption) ?_ | with_reducible refine choF' (by assumption) ?_ | (with_reducible refine altT ?_ ?_; first | omega | (simp only [List.length_append, List.length_cons, List.length_nil, List.length_map, List.length_take, List.length_drop, List.length_replicate, List.length_set]; omega)) | with_reducible refine altF ?_ | with_reducible refine all fun _ => ?_ | with_reducible refine both ?_ ?_ | (with_reducible refine choT ?_ ?_; omega) | (with_reducible refine choF ?_ ?_; omega) | with_reducible refine cho (fun _ => ?_) (fun _ => ?_))
  refine loopI (β := Nat × UInt64) (fun x => x.1 ≤ min l.length 10 ∧ x.2.toNat < 128 ^ x.1 ∧ getG l = getA (l.drop x.1) x.1 x.2.toNat) (fun x => [W64 x.2, .lst 1 ((l.take (min l.length 10)).map byt) .ro, I .i64 (min l.length 10 : Nat), I .i64 (x.1 : Nat)]) (fun _ => []) (fun x => min l.length 10 - x.1) (0, 0) ⟨Nat.zero_le _, by decide, rfl⟩ ?_ ?_
  · rw [List.length_take, Nat.min_eq_left (Nat.min_le_left _ _)]
    exact Sub.refl _ _
  rintro ⟨i, w⟩ ⟨hi, hw, hg⟩
  dsimp only at hi hw hg ⊢
  by_cases hlt : i < min l.length 10
  · rw [getT l (by omega)] at hg
    have ht : (l.take (min l.length 10)).getD i default = l.getD i 0 := by rw [List.getD_eq_getElem?_getD, List.getD_eq_getElem?_getD, List.getElem?_take, if_pos hlt]; rfl
    have hb := fun h9 => or_bits (c := (l.getD i 0).toNat % 128) (i := i) (w := w) (by omega) hw (Nat.mod_lt _ (by decide)) h9
    have hp := pow_step (c := (l.getD i 0).toNat % 128) hw (Nat.mod_lt _ (by decide))
    repeat' (first | with_reducible apply Stp.go | with_reducible refine imp fun _ => ?_ | (with_reducible refine hyp ?_ ?_; first | assumption | exact leftT_mem (by assumption)) | (with_reducible refine need ?_ ?_; first | trivial | omega | exact ⟨by assumption, by omega⟩ | (simp only [List.length_append, List.length_cons, List.length_nil, List.length_map, List.length_take, List.length_drop, List.length_replicate, List.length_set]; omega)) | (with_reducible refine fact ?_ ?_; first | trivial | exact ⟨rfl, rfl⟩ | kernel_rfl) | with_reducible refine choT (by assumption) ?_ | with_reducible refine choF (by assumption) ?_ | with_reducible refine choF' (by assumption) ?_ | (with_reducible refine altT ?_ ?_; first | omega | (simp only [List.length_append, List.length_cons, List.length_nil, List.length_map, List.length_take, List.length_drop, List.length_replicate, List.length_set]; omega)) | with_reducible refine altF ?_ | with_reducible refine all fun _ => ?_ | with_reducible refine both ?_ ?_ | (with_reducible refine choT ?_ ?_; omega) | (with_reducible refine choF ?_ ?_; omega) | with_reducible refine cho (fun _ => ?_) (fun _ => ?_))
    all_goals simp only [ht, and127] at *
    all_goals
      first
      | (refine ⟨g_fail ?_, by trivial⟩; rw [hg, if_pos (by omega)])
      | (refine ⟨g_done ?_, by trivial⟩; rw [hg, if_neg (by omega), if_pos (by omega), hb (by omega)])
      | (rw [if_neg (by omega), if_neg (by omega), ← hb (by omega)] at hg
         rw [← hb (by omega)] at hp
         exact again (i + 1, _) (by dsimp only; omega) ⟨by dsimp only; omega, hp, hg⟩ (Sub.refl _ _))
  · have hn : getG l = none := by
      rw [hg]
      rcases Nat.lt_or_ge i 10 with h | h
      · rw [List.drop_eq_nil_of_le (by omega)]
        rfl
      · exact getA_ge _ _ h
    repeat' (first | with_reducible apply Stp.go | with_reducible refine imp fun _ => ?_ | (with_reducible refine hyp ?_ ?_; first | assumption | exact leftT_mem (by assumption)) | (with_reducible refine need ?_ ?_; first | trivial | omega | exact ⟨by assumption, by omega⟩ | (simp only [List.length_append, List.length_cons, List.length_nil, List.length_map, List.length_take, List.length_drop, List.length_replicate, List.length_set]; omega)) | (with_reducible refine fact ?_ ?_; first | trivial | exact ⟨rfl, rfl⟩ | kernel_rfl) | with_reducible refine choT (by assumption) ?_ | with_reducible refine choF (by assumption) ?_ | with_reducible refine choF' (by assumption) ?_ | (with_reducible refine altT ?_ ?_; first | omega | (simp only [List.length_append, List.length_cons, List.length_nil, List.length_map, List.length_take, List.length_drop, List.length_replicate, List.length_set]; omega)) | with_reducible refine altF ?_ | with_reducible refine all fun _ => ?_ | with_reducible refine both ?_ ?_ | (with_reducible refine choT ?_ ?_; omega) | (with_reducible refine choF ?_ ?_; omega) | with_reducible refine cho (fun _ => ?_) (fun _ => ?_))
    exact ⟨g_fail hn, by trivial⟩
instance {a : AV} {l : List UInt8} {m : SM} [h : IsL a byt 1 l m] : PC Go.Proofs.Try.prog 128 [a] (l.length ≤ 1000000000000000) (.tuple [W64 (UInt64.ofNat (getV l)), I .i64 (getN l : Nat), B (getO l)]) := ⟨fun hl => ⟨[.lst 1 (l.map byt) m], ⟨h.sub, trivial⟩, codec_Get_ok l m hl⟩⟩
theorem ref01_Get_ok (l : List UInt8) (hl : l.length ≤ 1000000000000000) : aPure Go.Proofs.Try.prog 117 [S l] (.tuple [W64 (UInt64.ofNat (getV l)), I .i64 (getN l : Nat), B (getO l)]) := by
  refine ref01_Get.go ?_
  unfold ref01_Get.sh
  refine loopI (β := Nat × UInt64) (fun x => x.1 ≤ min l.length 10 ∧ x.2.toNat < 128 ^ x.1 ∧ getG l = getA (l.drop x.1) x.1 x.2.toNat) (fun x => [S l, W64 x.2, I .i64 (x.1 : Nat)]) (fun _ => []) (fun x => min l.length 10 - x.1) (0, 0) ⟨Nat.zero_le _, by decide, rfl⟩ (Sub.refl _ _) ?_
  rintro ⟨i, w⟩ ⟨hi, hw, hg⟩
  dsimp only at hi hw hg ⊢
  by_cases hlt : i < min l.length 10
  · rw [getT l (by omega)] at hg
    have hb := fun h9 => or_bits (c := (l.getD i 0).toNat % 128) (i := i) (w := w) (by omega) hw (Nat.mod_lt _ (by decide)) h9
    have hp := pow_step (c := (l.getD i 0).toNat % 128) hw (Nat.mod_lt _ (by decide))
    have ht : l.getD i default = l.getD i 0 := rfl
    have h7 : 7 * i % 18446744073709551616 = 7 * i := by omega
    have hm : (l.getD i 0 % 128).toNat = (l.getD i 0).toNat % 128 := by rw [UInt8.toNat_mod]; rfl
    repeat' (first | with_reducible apply Stp.go | with_reducible refine imp fun _ => ?_ | (with_reducible refine hyp ?_ ?_; first | assumption | exact leftT_mem (by assumption)) | (with_reducible refine need ?_ ?_; first | trivial | omega | exact ⟨by assumption, by omega⟩ | (simp only [List.length_append, List.length_cons, List.length_nil, List.length_map, List.length_take, List.length_drop, List.length_replicate, List.length_set]; omega)) | (with_reducible refine fact ?_ ?_; first | trivial | exact ⟨rfl, rfl⟩ | kernel_rfl) | with_reducible refine choT (by assumption) ?_ | with_reducible refine choF (by assumption) ?_ | with_reducible refine choF' (by assumption) ?_ | (with_reducible refine altT ?_ ?_; first | omega | (simp only [List.length_append, List.length_cons, List.length_nil, List.length_map, List.length_take, List.length_drop, List.length_replicate, List.length_set]; omega)) | with_reducible refine altF ?_ | with_reducible refine all fun _ => ?_ | with_reducible refine both ?_ ?_ | (with_reducible refine choT ?_ ?_; omega) | (with_reducible refine choF ?_ ?_; omega) | with_reducible refine cho (fun _ => ?_) (fun _ => ?_))
    all_goals simp only [ht, hm, h7] at *
    all_goals
      first
      | (refine ⟨g_fail ?_, by trivial⟩; rw [hg, if_pos (by omega)])
      | (refine ⟨g_done ?_, by trivial⟩; rw [hg, if_neg (by omega), if_pos (by omega), hb (by omega)])
      | (rw [if_neg (by omega), if_neg (by omega), ← hb (by omega)] at hg
         rw [← hb (by omega)] at hp
         exact again (i + 1, _) (by dsimp only; omega) ⟨by dsimp only; omega, hp, hg⟩ (Sub.refl _ _))
  · have hn : getG l = none := by
      rw [hg]
      rcases Nat.lt_or_ge i 10 with h | h
      · rw [List.drop_eq_nil_of_le (by omega)]
        rfl
      · exact getA_ge _ _ h
    repeat' (first | with_reducible apply Stp.go | with_reducible refine imp fun _ => ?_ | (with_reducible refine hyp ?_ ?_; first | assumption | exact leftT_mem (by assumption)) | (with_reducible refine need ?_ ?_; first | trivial | omega | exact ⟨by assumption, by omega⟩ | (simp only [List.length_append, List.length_cons, List.length_nil, List.length_map, List.length_take, List.length_drop, List.length_replicate, List.length_set]; omega)) | (with_reducible refine fact ?_ ?_; first | trivial | exact ⟨rfl, rfl⟩ | kernel_rfl) | with_reducible refine choT (by assumption) ?_ | with_reducible refine choF (by assumption) ?_ | with_reducible refine choF' (by assumption) ?_ | (with_reducible refine altT ?_ ?_; first | omega | (simp only [List.length_append, List.length_cons, List.length_nil, List.length_map, List.length_take, List.length_drop, List.length_replicate, List.length_set]; omega)) | with_reducible refine altF ?_ | with_reducible refine all fun _ => ?_ | with_reducible refine both ?_ ?_ | (with_reducible refine choT ?_ ?_; omega) | (with_reducible refine choF ?_ ?_; omega) | with_reducible refine cho (fun _ => ?_) (fun _ => ?_))
    all_goals exact ⟨g_fail hn, by trivial⟩
instance {l : List UInt8} : PC Go.Proofs.Try.prog 117 [S l] (l.length ≤ 1000000000000000) (.tuple [W64 (UInt64.ofNat (getV l)), I .i64 (getN l : Nat), B (getO l)]) := ⟨fun hl => PC.of (ref01_Get_ok l hl)⟩
def codec_Text.mark : Mark := ⟨fun t => Nat.beq t 11, fun t => false, fun t => false, fun t => false, fun t => false⟩
def codec_Text.ann : Ann := ⟨fun n => [], fun n => none, fun n => none⟩
/-- 'marlstone/codec.Text' -/
def codec_Text.sh (a0 : AV) (σ : Store) (Q : AEnd → Store → Prop) : Prop :=
  Do (aPureC Go.Proofs.Try.prog 128 [a0]) fun t11 =>
  Do (aExt t11 0) fun t12 =>
  Do (aExt t11 1) fun t13 =>
  Do (aExt t11 2) fun t14 =>
  Do (aUn Go.Proofs.Try.prog .not t14) fun t16 =>
  Do (aGuard t16 false (aIs t12)) fun t18 =>
  Do (aGuard t16 false (aIs a0)) fun t19 =>
  Do (aGuard t16 false (aBuiltin Go.Proofs.Try.prog .len #[27] [t19])) fun t20 =>
  Do (aGuard t16 false (aIs t13)) fun t21 =>
  Do (aGuard t16 false (aBin Go.Proofs.Try.prog .sub 3 t20 t21)) fun t22 =>
  Do (aGuard t16 false (fun x => aConvN 3 143 t22 x Go.Proofs.Try.prog)) fun t23 =>
  Do (aGuard t16 false (aBin Go.Proofs.Try.prog .gtr 143 t18 t23)) fun t24 =>
  Do (aPick t16 (.val (.bool true)) t24) fun t25 =>
  aCond t25
    (Q (.ret (.tuple [(.val (.string ⟨#[]⟩)), (.val (.int .i64 0)), (.val (.bool false))])) σ)
    (Do (fun x => aConvN 143 3 t12 x Go.Proofs.Try.prog) fun t28 =>
  Do (aBin Go.Proofs.Try.prog .add 3 t13 t28) fun t29 =>
  Do (aSlice .slice 1 a0 (some t13) (some t29) none) fun t33 =>
  Do (aConvBS t33) fun t34 =>
  Q (.ret (.tuple [t34, t29, (.val (.bool true))])) σ)
theorem codec_Text.eq (a0 : AV) (σ : Store) (Q : AEnd → Store → Prop) : vc (semOf Go.Proofs.Try.prog codec_Text.mark) Go.Proofs.Try.f129.ntmps codec_Text.ann (bodyOf Go.Proofs.Try.f129) (endK [.tmp 2, .tmp 3, .tmp 4] Q) (argFr [a0]) σ = codec_Text.sh a0 σ Q := by kernel_rfl
theorem codec_Text.go {a0 : AV} {σ : Store} {Q : AEnd → Store → Prop} (h : codec_Text.sh a0 σ Q) : ACalls Go.Proofs.Try.prog 129 [a0] σ Q :=
  acalls_of_eq [.tmp 2, .tmp 3, .tmp 4] Go.Proofs.Try.func129 (by kernel_rfl) (by kernel_rfl) (by kernel_rfl) (by kernel_rfl) (codec_Text.eq a0 σ Q) h
def ref01_Text.mark : Mark := ⟨fun t => Nat.beq t 10, fun t => false, fun t => false, fun t => false, fun t => false⟩
def ref01_Text.ann : Ann := ⟨fun n => [], fun n => none, fun n => none⟩
/-- 'marlstone/marlstoneref01.Text' -/
def ref01_Text.sh (a0 : AV) (σ : Store) (Q : AEnd → Store → Prop) : Prop :=
  Do (aPureC Go.Proofs.Try.prog 117 [a0]) fun t10 =>
  Do (aExt t10 0) fun t11 =>
  Do (aExt t10 1) fun t12 =>
  Do (aExt t10 2) fun t13 =>
  Do (aUn Go.Proofs.Try.prog .not t13) fun t15 =>
  Do (aGuard t15 false (aIs t11)) fun t17 =>
  Do (aGuard t15 false (aIs a0)) fun t18 =>
  Do (aGuard t15 false (aBuiltin Go.Proofs.Try.prog .len #[9] [t18])) fun t19 =>
  Do (aGuard t15 false (aIs t12)) fun t20 =>
  Do (aGuard t15 false (aBin Go.Proofs.Try.prog .sub 3 t19 t20)) fun t21 =>
  Do (aGuard t15 false (fun x => aConvN 3 143 t21 x Go.Proofs.Try.prog)) fun t22 =>
  Do (aGuard t15 false (aBin Go.Proofs.Try.prog .gtr 143 t17 t22)) fun t23 =>
  Do (aPick t15 (.val (.bool true)) t23) fun t24 =>
  aCond t24
    (Q (.ret (.tuple [(.val (.string ⟨#[]⟩)), (.val (.int .i64 0)), (.val (.bool false))])) σ)
    (Do (fun x => aConvN 143 3 t11 x Go.Proofs.Try.prog) fun t29 =>
  Do (aBin Go.Proofs.Try.prog .add 3 t12 t29) fun t30 =>
  Do (aSlice .string 1 a0 (some t12) (some t30) none) fun t31 =>
  Do (fun x => aConvN 143 3 t11 x Go.Proofs.Try.prog) fun t34 =>
  Do (aBin Go.Proofs.Try.prog .add 3 t12 t34) fun t35 =>
  Q (.ret (.tuple [t31, t35, (.val (.bool true))])) σ)
theorem ref01_Text.eq (a0 : AV) (σ : Store) (Q : AEnd → Store → Prop) : vc (semOf Go.Proofs.Try.prog ref01_Text.mark) Go.Proofs.Try.f118.ntmps ref01_Text.ann (bodyOf Go.Proofs.Try.f118) (endK [.tmp 2, .tmp 3, .tmp 4] Q) (argFr [a0]) σ = ref01_Text.sh a0 σ Q := by kernel_rfl
theorem ref01_Text.go {a0 : AV} {σ : Store} {Q : AEnd → Store → Prop} (h : ref01_Text.sh a0 σ Q) : ACalls Go.Proofs.Try.prog 118 [a0] σ Q :=
  acalls_of_eq [.tmp 2, .tmp 3, .tmp 4] Go.Proofs.Try.func118 (by kernel_rfl) (by kernel_rfl) (by kernel_rfl) (by kernel_rfl) (ref01_Text.eq a0 σ Q) h
theorem textG_eq (l : List UInt8) : textG l = if getO l = true then (if l.length - getN l < getV l then none else some ((l.drop (getN l)).take (getV l), getN l + getV l)) else none := by
  unfold textG getO getN getV
  cases getG l with
  | none => rfl
  | some r => rfl
theorem t_fail {l : List UInt8} (h : textG l = none) : AEnd.ret (.tuple [.val (.string ⟨#[]⟩), I .i64 0, B false]) = .ret (.tuple [S (textV l), I .i64 (textN l : Nat), B (textO l)]) := by
  simp [textV, textN, textO, h]
theorem t_done {l t : List UInt8} {n : Nat} (h : textG l = some (t, n)) : AEnd.ret (.tuple [S t, I .i64 (n : Nat), B true]) = .ret (.tuple [S (textV l), I .i64 (textN l : Nat), B (textO l)]) := by
  simp [textV, textN, textO, h]
theorem codec_Text_ok (l : List UInt8) (m : SM) (hl : l.length ≤ 1000000000000000) : aPure Go.Proofs.Try.prog 129 [.lst 1 (l.map byt) m] (.tuple [S (textV l), I .i64 (textN l : Nat), B (textO l)]) := by
  refine codec_Text.go ?_
  unfold codec_Text.sh
  obtain ⟨b1, b2, b3, b4⟩ := get_bound (s := l)
  have hu := u64_len b1
  repeat' (first | with_reducible apply Stp.go | with_reducible refine imp fun _ => ?_ | (with_reducible refine hyp ?_ ?_; first | assumption | exact leftT_mem (by assumption)) | (with_reducible refine need ?_ ?_; first | trivial | omega | exact ⟨by assumption, by omega⟩ | (simp only [List.length_append, List.length_cons, List.length_nil, List.length_map, List.length_take, List.length_drop, List.length_replicate, List.length_set]; omega)) | (with_reducible refine fact ?_ ?_; first | trivial | exact ⟨rfl, rfl⟩ | kernel_rfl) | with_reducible refine choT (by assumption) ?_ | with_reducible refine choF (by assumption) ?_ | with_reducible refine choF' (by assumption) ?_ | (with_reducible refine altT ?_ ?_; first | omega | (simp only [List.length_append, List.length_cons, List.length_nil, List.length_map, List.length_take, List.length_drop, List.length_replicate, List.length_set]; omega)) | with_reducible refine altF ?_ | with_reducible refine all fun _ => ?_ | with_reducible refine both ?_ ?_ | (with_reducible refine choT ?_ ?_; omega) | (with_reducible refine choF ?_ ?_; omega) | with_reducible refine cho (fun _ => ?_) (fun _ => ?_))
  · rename_i h1 h2
    refine ⟨t_fail ?_, rfl⟩
    rw [textG_eq, if_pos h1, if_pos (by omega)]
  · rename_i h1 h2
    rw [Nat.mod_eq_of_lt b1]
    refine ⟨t_done ?_, rfl⟩
    rw [textG_eq, if_pos h1, if_neg (by omega), List.drop_take, Nat.add_sub_cancel_left]
  · rename_i h1
    refine ⟨t_fail ?_, rfl⟩
    rw [textG_eq, if_neg h1]
instance {a : AV} {l : List UInt8} {m : SM} [h : IsL a byt 1 l m] : PC Go.Proofs.Try.prog 129 [a] (l.length ≤ 1000000000000000) (.tuple [S (textV l), I .i64 (textN l : Nat), B (textO l)]) := ⟨fun hl => ⟨[.lst 1 (l.map byt) m], ⟨h.sub, trivial⟩, codec_Text_ok l m hl⟩⟩
theorem ref01_Text_ok (l : List UInt8) (hl : l.length ≤ 1000000000000000) : aPure Go.Proofs.Try.prog 118 [S l] (.tuple [S (textV l), I .i64 (textN l : Nat), B (textO l)]) := by
  refine ref01_Text.go ?_
  unfold ref01_Text.sh
  obtain ⟨b1, b2, b3, b4⟩ := get_bound (s := l)
  have hu := u64_len b1
  repeat' (first | with_reducible apply Stp.go | with_reducible refine imp fun _ => ?_ | (with_reducible refine hyp ?_ ?_; first | assumption | exact leftT_mem (by assumption)) | (with_reducible refine need ?_ ?_; first | trivial | omega | exact ⟨by assumption, by omega⟩ | (simp only [List.length_append, List.length_cons, List.length_nil, List.length_map, List.length_take, List.length_drop, List.length_replicate, List.length_set]; omega)) | (with_reducible refine fact ?_ ?_; first | trivial | exact ⟨rfl, rfl⟩ | kernel_rfl) | with_reducible refine choT (by assumption) ?_ | with_reducible refine choF (by assumption) ?_ | with_reducible refine choF' (by assumption) ?_ | (with_reducible refine altT ?_ ?_; first | omega | (simp only [List.length_append, List.length_cons, List.length_nil, List.length_map, List.length_take, List.length_drop, List.length_replicate, List.length_set]; omega)) | with_reducible refine altF ?_ | with_reducible refine all fun _ => ?_ | with_reducible refine both ?_ ?_ | (with_reducible refine choT ?_ ?_; omega) | (with_reducible refine choF ?_ ?_; omega) | with_reducible refine cho (fun _ => ?_) (fun _ => ?_))
  · rename_i h1 h2
    refine ⟨t_fail ?_, rfl⟩
    rw [textG_eq, if_pos h1, if_pos (by omega)]
  · rename_i h1 h2
    rw [Nat.mod_eq_of_lt b1]
    refine ⟨t_done ?_, rfl⟩
    rw [textG_eq, if_pos h1, if_neg (by omega), List.drop_take, Nat.add_sub_cancel_left]
  · rename_i h1
    refine ⟨t_fail ?_, rfl⟩
    rw [textG_eq, if_neg h1]
instance {l : List UInt8} : PC Go.Proofs.Try.prog 118 [S l] (l.length ≤ 1000000000000000) (.tuple [S (textV l), I .i64 (textN l : Nat), B (textO l)]) := ⟨fun hl => PC.of (ref01_Text_ok l hl)⟩
end Go.Ab
