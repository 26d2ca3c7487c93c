/- The texts that this claim needs, part 8: a logic over abstract values, its steps, what the functions do. No condition of its own. -/
import Derived.Shelf.SlSortCmp.NoneTotal
import Derived.Test.YtfbdncmmnelklaaTableParsesK7
/- slices.SortFunc at entries: from the kit's contract to a call told of abstract states. -/
set_option linter.unusedVariables false
set_option linter.unusedSimpArgs false
namespace Go.Ab
open Go.Proofs Go.Shelf Go.RowKit Go.Lib Go.Sort
/-- An entry's cells. -/
def enc (e : En) : List Value := [.string ⟨e.key.toArray⟩, .string ⟨e.val.toArray⟩, .bool e.del, .int .i64 e.seq]
end Go.Ab

/- The code's fold. -/
set_option linter.unusedVariables false
set_option linter.unusedSimpArgs false
namespace Go.Ab
def entry_Fold.mark : Mark := ⟨fun t => false, fun t => false, fun t => false, fun t => Nat.beq t 17, fun t => Nat.beq t 40⟩
def entry_Fold.ann : Ann := ⟨fun n => bif Nat.beq n 3 then [3, 12, 13, 14] else bif Nat.beq n 11 then [8, 43] else [], fun n => none, fun n => none⟩
end Go.Ab

/- Layer 11: few entries; those that are right, folded. -/
set_option linter.unusedVariables false
set_option linter.unusedSimpArgs false
namespace Go.Ab
def law11_few.mark : Mark := ⟨fun t => false, fun t => false, fun t => false, fun t => Nat.beq t 22, fun t => false⟩
def law11_few.ann : Ann := ⟨fun n => bif Nat.beq n 3 then [0, 1, 5, 6] else [], fun n => none, fun n => none⟩
def law11_fit.mark : Mark := ⟨fun t => Nat.beq t 7 || Nat.beq t 8 || Nat.beq t 24, fun t => false, fun t => false, fun t => Nat.beq t 23 || Nat.beq t 29, fun t => false⟩
def law11_fit.ann : Ann := ⟨fun n => bif Nat.beq n 4 then [3, 4, 5] else [], fun n => none, fun n => none⟩
end Go.Ab

/- Reading numbers and texts. -/
set_option linter.unusedVariables false
set_option linter.unusedSimpArgs false
namespace Go.Ab
def codec_Get.mark : Mark := ⟨fun t => false, fun t => false, fun t => false, fun t => Nat.beq t 18, fun t => false⟩
def codec_Get.ann : Ann := ⟨fun n => bif Nat.beq n 3 then [5, 12, 13, 14] else [], fun n => none, fun n => none⟩
/-- 'marlstone/codec.Get' -/
def codec_Get.sh (a0 : AV) (σ : Store) (Q : AEnd → Store → Prop) : Prop :=
  Do (aBuiltin Go.Proofs.Try.prog .len #[25] [a0]) fun t10 =>
  Do (aBuiltin Go.Proofs.Try.prog .min #[3, 3] [t10, (.val (.int .i64 10))]) fun t11 =>
  Do (aSlice .slice 1 a0 none (some t11) none) fun t12 =>
  Do (aBuiltin Go.Proofs.Try.prog .len #[25] [t12]) fun t13 =>
  aLoop (fun go vs σ =>
    At vs 0 fun s5 => At vs 1 fun s12 => At vs 2 fun s13 => At vs 3 fun s14 => Do (aBin Go.Proofs.Try.prog .lss 3 s14 s13) fun t15 =>
    aCond t15
      (Do (aIndexAddr .slice 1 s12 s14) fun t17 =>
    Do (loadF false 1 t17) fun t18 =>
    Do (aBin Go.Proofs.Try.prog .eql 3 s14 (.val (.int .i64 9))) fun t20 =>
    Do (aGuard t20 true (aIs t18)) fun t22 =>
    Do (aGuard t20 true (aBin Go.Proofs.Try.prog .gtr 5 t22 (W8 1))) fun t23 =>
    Do (aPick t20 t23 (.val (.bool false))) fun t24 =>
    Do (aGuard t24 false (aIs s14)) fun t26 =>
    Do (aGuard t24 false (aBin Go.Proofs.Try.prog .gtr 3 t26 (.val (.int .i64 0)))) fun t27 =>
    Do (aGuard t24 false (aIs t27)) fun t28 =>
    Do (aGuard t28 true (aIs t18)) fun t29 =>
    Do (aGuard t28 true (aBin Go.Proofs.Try.prog .eql 5 t29 (W8 0))) fun t30 =>
    Do (aGuard t24 false (aPick t28 t30 (.val (.bool false)))) fun t31 =>
    Do (aPick t24 (.val (.bool true)) t31) fun t32 =>
    aCond t32
      (Q (.ret (.tuple [(W64 0), (.val (.int .i64 0)), (.val (.bool false))])) σ)
      (Do (aBin Go.Proofs.Try.prog .and 5 t18 (W8 127)) fun t35 =>
    Do (fun x => aConvN 5 71 t35 x Go.Proofs.Try.prog) fun t36 =>
    Do (aBin Go.Proofs.Try.prog .mul 3 (.val (.int .i64 7)) s14) fun t38 =>
    Do (aBin Go.Proofs.Try.prog .shl 71 t36 t38) fun t39 =>
    Do (aBin Go.Proofs.Try.prog .or 71 s5 t39) fun t40 =>
    Do (aBin Go.Proofs.Try.prog .lss 5 t18 (W8 128)) fun t42 =>
    aCond t42
      (Do (aBin Go.Proofs.Try.prog .add 3 s14 (.val (.int .i64 1))) fun t45 =>
      Q (.ret (.tuple [t40, t45, (.val (.bool true))])) σ)
      (Do (aBin Go.Proofs.Try.prog .add 3 s14 (.val (.int .i64 1))) fun t46 =>
    go [t40, s12, s13, t46] σ)))
      (Q (.ret (.tuple [(W64 0), (.val (.int .i64 0)), (.val (.bool false))])) σ))
    [(W64 0), t12, t13, (.val (.int .i64 0))] σ
theorem codec_Get.eq (a0 : AV) (σ : Store) (Q : AEnd → Store → Prop) : vc (semOf Go.Proofs.Try.prog codec_Get.mark) Go.Proofs.Try.f78.ntmps codec_Get.ann (bodyOf Go.Proofs.Try.f78) (endK [.tmp 2, .tmp 3, .tmp 4] Q) (argFr [a0]) σ = codec_Get.sh a0 σ Q := by kernel_rfl
theorem codec_Get.go {a0 : AV} {σ : Store} {Q : AEnd → Store → Prop} (h : codec_Get.sh a0 σ Q) : ACalls Go.Proofs.Try.prog 78 [a0] σ Q :=
  acalls_of_eq [.tmp 2, .tmp 3, .tmp 4] Go.Proofs.Try.func78 (by kernel_rfl) (by kernel_rfl) (by kernel_rfl) (by kernel_rfl) (codec_Get.eq a0 σ Q) h
def ref01_Get.mark : Mark := ⟨fun t => false, fun t => false, fun t => false, fun t => false, fun t => false⟩
def ref01_Get.ann : Ann := ⟨fun n => bif Nat.beq n 3 then [0, 5, 6] else [], fun n => none, fun n => none⟩
/-- 'marlstone/marlstoneref01.Get' -/
def ref01_Get.sh (a0 : AV) (σ : Store) (Q : AEnd → Store → Prop) : Prop :=
  aLoop (fun go vs σ =>
    At vs 0 fun s0 => At vs 1 fun s5 => At vs 2 fun s6 => Do (aBuiltin Go.Proofs.Try.prog .len #[9] [s0]) fun t9 =>
    Do (aBin Go.Proofs.Try.prog .lss 3 s6 t9) fun t10 =>
    Do (aGuard t10 true (aIs s6)) fun t12 =>
    Do (aGuard t10 true (aBin Go.Proofs.Try.prog .lss 3 t12 (.val (.int .i64 10)))) fun t13 =>
    Do (aPick t10 t13 (.val (.bool false))) fun t14 =>
    aCond t14
      (Do (aBin Go.Proofs.Try.prog .eql 3 s6 (.val (.int .i64 9))) fun t18 =>
    Do (aGuard t18 true (aIs s0)) fun t20 =>
    Do (aGuard t18 true (aIs s6)) fun t21 =>
    Do (aGuard t18 true (aIndex .string false 1 t20 t21)) fun t22 =>
    Do (aGuard t18 true (aBin Go.Proofs.Try.prog .gtr 5 t22 (W8 1))) fun t23 =>
    Do (aPick t18 t23 (.val (.bool false))) fun t24 =>
    aCond t24
      (Q (.ret (.tuple [(W64 0), (.val (.int .i64 0)), (.val (.bool false))])) σ)
      (Do (aIndex .string false 1 s0 s6) fun t28 =>
    Do (aBin Go.Proofs.Try.prog .rem 5 t28 (W8 128)) fun t29 =>
    Do (fun x => aConvN 5 71 t29 x Go.Proofs.Try.prog) fun t30 =>
    Do (aBin Go.Proofs.Try.prog .mul 3 (.val (.int .i64 7)) s6) fun t32 =>
    Do (fun x => aConvN 3 103 t32 x Go.Proofs.Try.prog) fun t33 =>
    Do (aBin Go.Proofs.Try.prog .shl 71 t30 t33) fun t34 =>
    Do (aBin Go.Proofs.Try.prog .or 71 s5 t34) fun t35 =>
    Do (aIndex .string false 1 s0 s6) fun t38 =>
    Do (aBin Go.Proofs.Try.prog .lss 5 t38 (W8 128)) fun t39 =>
    aCond t39
      (Do (aBin Go.Proofs.Try.prog .gtr 3 s6 (.val (.int .i64 0))) fun t41 =>
      Do (aGuard t41 true (aIs s0)) fun t43 =>
      Do (aGuard t41 true (aIs s6)) fun t44 =>
      Do (aGuard t41 true (aIndex .string false 1 t43 t44)) fun t45 =>
      Do (aGuard t41 true (aBin Go.Proofs.Try.prog .eql 5 t45 (W8 0))) fun t46 =>
      Do (aPick t41 t46 (.val (.bool false))) fun t47 =>
      aCond t47
        (Q (.ret (.tuple [(W64 0), (.val (.int .i64 0)), (.val (.bool false))])) σ)
        (Do (aBin Go.Proofs.Try.prog .add 3 s6 (.val (.int .i64 1))) fun t50 =>
      Q (.ret (.tuple [t35, t50, (.val (.bool true))])) σ))
      (Do (aBin Go.Proofs.Try.prog .add 3 s6 (.val (.int .i64 1))) fun t16 =>
    go [s0, t35, t16] σ)))
      (Q (.ret (.tuple [(W64 0), (.val (.int .i64 0)), (.val (.bool false))])) σ))
    [a0, (W64 0), (.val (.int .i64 0))] σ
theorem ref01_Get.eq (a0 : AV) (σ : Store) (Q : AEnd → Store → Prop) : vc (semOf Go.Proofs.Try.prog ref01_Get.mark) Go.Proofs.Try.f52.ntmps ref01_Get.ann (bodyOf Go.Proofs.Try.f52) (endK [.tmp 2, .tmp 3, .tmp 4] Q) (argFr [a0]) σ = ref01_Get.sh a0 σ Q := by kernel_rfl
theorem ref01_Get.go {a0 : AV} {σ : Store} {Q : AEnd → Store → Prop} (h : ref01_Get.sh a0 σ Q) : ACalls Go.Proofs.Try.prog 52 [a0] σ Q :=
  acalls_of_eq [.tmp 2, .tmp 3, .tmp 4] Go.Proofs.Try.func52 (by kernel_rfl) (by kernel_rfl) (by kernel_rfl) (by kernel_rfl) (ref01_Get.eq a0 σ Q) h
theorem getT (s : List UInt8) {i : Nat} (h : i < s.length) (v : Nat) : getA (s.drop i) i v = (if 10 ≤ i ∨ (i = 9 ∧ 1 < (s.getD i 0).toNat) ∨ (0 < i ∧ (s.getD i 0).toNat = 0) then none
    else if (s.getD i 0).toNat < 128 then some (v + (s.getD i 0).toNat % 128 * 128 ^ i, i + 1) else getA (s.drop (i + 1)) (i + 1) (v + (s.getD i 0).toNat % 128 * 128 ^ i)) := by
  have e := drop_cons_d h
  have e2 : s.getD i default = s.getD i 0 := rfl
  rw [e, e2, getA]
theorem g_fail {l : List UInt8} (h : getG l = none) : AEnd.ret (.tuple [W64 0, I .i64 0, B false]) = .ret (.tuple [W64 (UInt64.ofNat (getV l)), I .i64 (getN l : Nat), B (getO l)]) := by
  simp [getV, getN, getO, h]
theorem g_done {l : List UInt8} {x : UInt64} {n : Nat} (h : getG l = some (x.toNat, n)) : AEnd.ret (.tuple [W64 x, I .i64 (n : Nat), B true]) = .ret (.tuple [W64 (UInt64.ofNat (getV l)), I .i64 (getN l : Nat), B (getO l)]) := by
  simp [getV, getN, getO, h]
theorem and127 (c : UInt8) : (c &&& 127).toNat = c.toNat % 128 := by
  rw [UInt8.toNat_and]
  exact Nat.and_two_pow_sub_one_eq_mod c.toNat 7
theorem pow_step {v c i : Nat} (hv : v < 128 ^ i) (hc : c < 128) : v + c * 128 ^ i < 128 ^ (i + 1) := by
  have h1 : c * 128 ^ i ≤ 127 * 128 ^ i := Nat.mul_le_mul_right _ (by omega)
  rw [Nat.pow_succ]
  omega
theorem codec_Get_ok (l : List UInt8) (m : SM) (hl : l.length ≤ 1000000000000000) : aPure Go.Proofs.Try.prog 78 [.lst 1 (l.map byt) m] (.tuple [W64 (UInt64.ofNat (getV l)), I .i64 (getN l : Nat), B (getO l)]) := by
  refine codec_Get.go ?_
  unfold codec_Get.sh
  repeat' (first | with_reducible apply Stp.go | with_reducible refine imp fun _ => ?_ | (with_reducible refine hyp ?_ ?_; first | assumption | exact leftT_mem (by assumption)) | (with_reducible refine need ?_ ?_; first | trivial | omega | exact ⟨by assumption, by omega⟩ | (simp only [List.length_append, List.length_cons, List.length_nil, List.length_map, List.length_take, List.length_drop, List.length_replicate, List.length_set]; omega)) | (with_reducible refine fact ?_ ?_; first | trivial | exact ⟨rfl, rfl⟩ | kernel_rfl) | with_reducible refine choT (by assumption) ?_ | with_reducible refine choF (by assumption) ?_ | with_reducible refine choF' (by assumption) ?_ | (with_reducible refine altT ?_ ?_; first | omega | (simp only [List.length_append, List.length_cons, List.length_nil, List.length_map, List.length_take, List.length_drop, List.length_replicate, List.length_set]; omega)) | with_reducible refine altF ?_ | with_reducible refine all fun _ => ?_ | with_reducible refine both ?_ ?_ | (with_reducible refine choT ?_ ?_; omega) | (with_reducible refine choF ?_ ?_; omega) | with_reducible refine cho (fun _ => ?_) (fun _ => ?_))
  refine loopI (β := Nat × UInt64) (fun x => x.1 ≤ min l.length 10 ∧ x.2.toNat < 128 ^ x.1 ∧ getG l = getA (l.drop x.1) x.1 x.2.toNat) (fun x => [W64 x.2, .lst 1 ((l.take (min l.length 10)).map byt) .ro, I .i64 (min l.length 10 : Nat), I .i64 (x.1 : Nat)]) (fun _ => []) (fun x => min l.length 10 - x.1) (0, 0) ⟨Nat.zero_le _, by decide, rfl⟩ ?_ ?_
  · rw [List.length_take, Nat.min_eq_left (Nat.min_le_left _ _)]
    exact Sub.refl _ _
  rintro ⟨i, w⟩ ⟨hi, hw, hg⟩
  dsimp only at hi hw hg ⊢
  by_cases hlt : i < min l.length 10
  · rw [getT l (by omega)] at hg
    have ht : (l.take (min l.length 10)).getD i default = l.getD i 0 := by rw [List.getD_eq_getElem?_getD, List.getD_eq_getElem?_getD, List.getElem?_take, if_pos hlt]; rfl
    have hb := fun h9 => or_bits (c := (l.getD i 0).toNat % 128) (i := i) (w := w) (by omega) hw (Nat.mod_lt _ (by decide)) h9
    have hp := pow_step (c := (l.getD i 0).toNat % 128) hw (Nat.mod_lt _ (by decide))
    repeat' (first | with_reducible apply Stp.go | with_reducible refine imp fun _ => ?_ | (with_reducible refine hyp ?_ ?_; first | assumption | exact leftT_mem (by assumption)) | (with_reducible refine need ?_ ?_; first | trivial | omega | exact ⟨by assumption, by omega⟩ | (simp only [List.length_append, List.length_cons, List.length_nil, List.length_map, List.length_take, List.length_drop, List.length_replicate, List.length_set]; omega)) | (with_reducible refine fact ?_ ?_; first | trivial | exact ⟨rfl, rfl⟩ | kernel_rfl) | with_reducible refine choT (by assumption) ?_ | with_reducible refine choF (by assumption) ?_ | with_reducible refine choF' (by assumption) ?_ | (with_reducible refine altT ?_ ?_; first | omega | (simp only [List.length_append, List.length_cons, List.length_nil, List.length_map, List.length_take, List.length_drop, List.length_replicate, List.length_set]; omega)) | with_reducible refine altF ?_ | with_reducible refine all fun _ => ?_ | with_reducible refine both ?_ ?_ | (with_reducible refine choT ?_ ?_; omega) | (with_reducible refine choF ?_ ?_; omega) | with_reducible refine cho (fun _ => ?_) (fun _ => ?_))
    all_goals simp only [ht, and127] at *
    all_goals
      first
      | (refine ⟨g_fail ?_, by trivial⟩; rw [hg, if_pos (by omega)])
      | (refine ⟨g_done ?_, by trivial⟩; rw [hg, if_neg (by omega), if_pos (by omega), hb (by omega)])
      | (rw [if_neg (by omega), if_neg (by omega), ← hb (by omega)] at hg
         rw [← hb (by omega)] at hp
         exact again (i + 1, _) (by dsimp only; omega) ⟨by dsimp only; omega, hp, hg⟩ (Sub.refl _ _))
  · have hn : getG l = none := by
      rw [hg]
      rcases Nat.lt_or_ge i 10 with h | h
      · rw [List.drop_eq_nil_of_le (by omega)]
        rfl
      · exact getA_ge _ _ h
    repeat' (first | with_reducible apply Stp.go | with_reducible refine imp fun _ => ?_ | (with_reducible refine hyp ?_ ?_; first | assumption | exact leftT_mem (by assumption)) | (with_reducible refine need ?_ ?_; first | trivial | omega | exact ⟨by assumption, by omega⟩ | (simp only [List.length_append, List.length_cons, List.length_nil, List.length_map, List.length_take, List.length_drop, List.length_replicate, List.length_set]; omega)) | (with_reducible refine fact ?_ ?_; first | trivial | exact ⟨rfl, rfl⟩ | kernel_rfl) | with_reducible refine choT (by assumption) ?_ | with_reducible refine choF (by assumption) ?_ | with_reducible refine choF' (by assumption) ?_ | (with_reducible refine altT ?_ ?_; first | omega | (simp only [List.length_append, List.length_cons, List.length_nil, List.length_map, List.length_take, List.length_drop, List.length_replicate, List.length_set]; omega)) | with_reducible refine altF ?_ | with_reducible refine all fun _ => ?_ | with_reducible refine both ?_ ?_ | (with_reducible refine choT ?_ ?_; omega) | (with_reducible refine choF ?_ ?_; omega) | with_reducible refine cho (fun _ => ?_) (fun _ => ?_))
    exact ⟨g_fail hn, by trivial⟩
instance {a : AV} {l : List UInt8} {m : SM} [h : IsL a byt 1 l m] : PC Go.Proofs.Try.prog 78 [a] (l.length ≤ 1000000000000000) (.tuple [W64 (UInt64.ofNat (getV l)), I .i64 (getN l : Nat), B (getO l)]) := ⟨fun hl => ⟨[.lst 1 (l.map byt) m], ⟨h.sub, trivial⟩, codec_Get_ok l m hl⟩⟩
theorem ref01_Get_ok (l : List UInt8) (hl : l.length ≤ 1000000000000000) : aPure Go.Proofs.Try.prog 52 [S l] (.tuple [W64 (UInt64.ofNat (getV l)), I .i64 (getN l : Nat), B (getO l)]) := by
  refine ref01_Get.go ?_
  unfold ref01_Get.sh
  refine loopI (β := Nat × UInt64) (fun x => x.1 ≤ min l.length 10 ∧ x.2.toNat < 128 ^ x.1 ∧ getG l = getA (l.drop x.1) x.1 x.2.toNat) (fun x => [S l, W64 x.2, I .i64 (x.1 : Nat)]) (fun _ => []) (fun x => min l.length 10 - x.1) (0, 0) ⟨Nat.zero_le _, by decide, rfl⟩ (Sub.refl _ _) ?_
  rintro ⟨i, w⟩ ⟨hi, hw, hg⟩
  dsimp only at hi hw hg ⊢
  by_cases hlt : i < min l.length 10
  · rw [getT l (by omega)] at hg
    have hb := fun h9 => or_bits (c := (l.getD i 0).toNat % 128) (i := i) (w := w) (by omega) hw (Nat.mod_lt _ (by decide)) h9
    have hp := pow_step (c := (l.getD i 0).toNat % 128) hw (Nat.mod_lt _ (by decide))
    have ht : l.getD i default = l.getD i 0 := rfl
    have h7 : 7 * i % 18446744073709551616 = 7 * i := by omega
    have hm : (l.getD i 0 % 128).toNat = (l.getD i 0).toNat % 128 := by rw [UInt8.toNat_mod]; rfl
    repeat' (first | with_reducible apply Stp.go | with_reducible refine imp fun _ => ?_ | (with_reducible refine hyp ?_ ?_; first | assumption | exact leftT_mem (by assumption)) | (with_reducible refine need ?_ ?_; first | trivial | omega | exact ⟨by assumption, by omega⟩ | (simp only [List.length_append, List.length_cons, List.length_nil, List.length_map, List.length_take, List.length_drop, List.length_replicate, List.length_set]; omega)) | (with_reducible refine fact ?_ ?_; first | trivial | exact ⟨rfl, rfl⟩ | kernel_rfl) | with_reducible refine choT (by assumption) ?_ | with_reducible refine choF (by assumption) ?_ | with_reducible refine choF' (by assumption) ?_ | (with_reducible refine altT ?_ ?_; first | omega | (simp only [List.length_append, List.length_cons, List.length_nil, List.length_map, List.length_take, List.length_drop, List.length_replicate, List.length_set]; omega)) | with_reducible refine altF ?_ | with_reducible refine all fun _ => ?_ | with_reducible refine both ?_ ?_ | (with_reducible refine choT ?_ ?_; omega) | (with_reducible refine choF ?_ ?_; omega) | with_reducible refine cho (fun _ => ?_) (fun _ => ?_))
    all_goals simp only [ht, hm, h7] at *
    all_goals
      first
      | (refine ⟨g_fail ?_, by trivial⟩; rw [hg, if_pos (by omega)])
      | (refine ⟨g_done ?_, by trivial⟩; rw [hg, if_neg (by omega), if_pos (by omega), hb (by omega)])
      | (rw [if_neg (by omega), if_neg (by omega), ← hb (by omega)] at hg
         rw [← hb (by omega)] at hp
         exact again (i + 1, _) (by dsimp only; omega) ⟨by dsimp only; omega, hp, hg⟩ (Sub.refl _ _))
  · have hn : getG l = none := by
      rw [hg]
      rcases Nat.lt_or_ge i 10 with h | h
      · rw [List.drop_eq_nil_of_le (by omega)]
        rfl
      · exact getA_ge _ _ h
    repeat' (first | with_reducible apply Stp.go | with_reducible refine imp fun _ => ?_ | (with_reducible refine hyp ?_ ?_; first | assumption | exact leftT_mem (by assumption)) | (with_reducible refine need ?_ ?_; first | trivial | omega | exact ⟨by assumption, by omega⟩ | (simp only [List.length_append, List.length_cons, List.length_nil, List.length_map, List.length_take, List.length_drop, List.length_replicate, List.length_set]; omega)) | (with_reducible refine fact ?_ ?_; first | trivial | exact ⟨rfl, rfl⟩ | kernel_rfl) | with_reducible refine choT (by assumption) ?_ | with_reducible refine choF (by assumption) ?_ | with_reducible refine choF' (by assumption) ?_ | (with_reducible refine altT ?_ ?_; first | omega | (simp only [List.length_append, List.length_cons, List.length_nil, List.length_map, List.length_take, List.length_drop, List.length_replicate, List.length_set]; omega)) | with_reducible refine altF ?_ | with_reducible refine all fun _ => ?_ | with_reducible refine both ?_ ?_ | (with_reducible refine choT ?_ ?_; omega) | (with_reducible refine choF ?_ ?_; omega) | with_reducible refine cho (fun _ => ?_) (fun _ => ?_))
    all_goals exact ⟨g_fail hn, by trivial⟩
instance {l : List UInt8} : PC Go.Proofs.Try.prog 52 [S l] (l.length ≤ 1000000000000000) (.tuple [W64 (UInt64.ofNat (getV l)), I .i64 (getN l : Nat), B (getO l)]) := ⟨fun hl => PC.of (ref01_Get_ok l hl)⟩
def codec_Text.mark : Mark := ⟨fun t => Nat.beq t 11, fun t => false, fun t => false, fun t => false, fun t => false⟩
def codec_Text.ann : Ann := ⟨fun n => [], fun n => none, fun n => none⟩
/-- 'marlstone/codec.Text' -/
def codec_Text.sh (a0 : AV) (σ : Store) (Q : AEnd → Store → Prop) : Prop :=
  Do (aPureC Go.Proofs.Try.prog 78 [a0]) fun t11 =>
  Do (aExt t11 0) fun t12 =>
  Do (aExt t11 1) fun t13 =>
  Do (aExt t11 2) fun t14 =>
  Do (aUn Go.Proofs.Try.prog .not t14) fun t16 =>
  Do (aGuard t16 false (aIs t12)) fun t18 =>
  Do (aGuard t16 false (aIs a0)) fun t19 =>
  Do (aGuard t16 false (aBuiltin Go.Proofs.Try.prog .len #[25] [t19])) fun t20 =>
  Do (aGuard t16 false (aIs t13)) fun t21 =>
  Do (aGuard t16 false (aBin Go.Proofs.Try.prog .sub 3 t20 t21)) fun t22 =>
  Do (aGuard t16 false (fun x => aConvN 3 71 t22 x Go.Proofs.Try.prog)) fun t23 =>
  Do (aGuard t16 false (aBin Go.Proofs.Try.prog .gtr 71 t18 t23)) fun t24 =>
  Do (aPick t16 (.val (.bool true)) t24) fun t25 =>
  aCond t25
    (Q (.ret (.tuple [(.val (.string ⟨#[]⟩)), (.val (.int .i64 0)), (.val (.bool false))])) σ)
    (Do (fun x => aConvN 71 3 t12 x Go.Proofs.Try.prog) fun t28 =>
  Do (aBin Go.Proofs.Try.prog .add 3 t13 t28) fun t29 =>
  Do (aSlice .slice 1 a0 (some t13) (some t29) none) fun t33 =>
  Do (aConvBS t33) fun t34 =>
  Q (.ret (.tuple [t34, t29, (.val (.bool true))])) σ)
theorem codec_Text.eq (a0 : AV) (σ : Store) (Q : AEnd → Store → Prop) : vc (semOf Go.Proofs.Try.prog codec_Text.mark) Go.Proofs.Try.f77.ntmps codec_Text.ann (bodyOf Go.Proofs.Try.f77) (endK [.tmp 2, .tmp 3, .tmp 4] Q) (argFr [a0]) σ = codec_Text.sh a0 σ Q := by kernel_rfl
theorem codec_Text.go {a0 : AV} {σ : Store} {Q : AEnd → Store → Prop} (h : codec_Text.sh a0 σ Q) : ACalls Go.Proofs.Try.prog 77 [a0] σ Q :=
  acalls_of_eq [.tmp 2, .tmp 3, .tmp 4] Go.Proofs.Try.func77 (by kernel_rfl) (by kernel_rfl) (by kernel_rfl) (by kernel_rfl) (codec_Text.eq a0 σ Q) h
def ref01_Text.mark : Mark := ⟨fun t => Nat.beq t 10, fun t => false, fun t => false, fun t => false, fun t => false⟩
def ref01_Text.ann : Ann := ⟨fun n => [], fun n => none, fun n => none⟩
/-- 'marlstone/marlstoneref01.Text' -/
def ref01_Text.sh (a0 : AV) (σ : Store) (Q : AEnd → Store → Prop) : Prop :=
  Do (aPureC Go.Proofs.Try.prog 52 [a0]) fun t10 =>
  Do (aExt t10 0) fun t11 =>
  Do (aExt t10 1) fun t12 =>
  Do (aExt t10 2) fun t13 =>
  Do (aUn Go.Proofs.Try.prog .not t13) fun t15 =>
  Do (aGuard t15 false (aIs t11)) fun t17 =>
  Do (aGuard t15 false (aIs a0)) fun t18 =>
  Do (aGuard t15 false (aBuiltin Go.Proofs.Try.prog .len #[9] [t18])) fun t19 =>
  Do (aGuard t15 false (aIs t12)) fun t20 =>
  Do (aGuard t15 false (aBin Go.Proofs.Try.prog .sub 3 t19 t20)) fun t21 =>
  Do (aGuard t15 false (fun x => aConvN 3 71 t21 x Go.Proofs.Try.prog)) fun t22 =>
  Do (aGuard t15 false (aBin Go.Proofs.Try.prog .gtr 71 t17 t22)) fun t23 =>
  Do (aPick t15 (.val (.bool true)) t23) fun t24 =>
  aCond t24
    (Q (.ret (.tuple [(.val (.string ⟨#[]⟩)), (.val (.int .i64 0)), (.val (.bool false))])) σ)
    (Do (fun x => aConvN 71 3 t11 x Go.Proofs.Try.prog) fun t29 =>
  Do (aBin Go.Proofs.Try.prog .add 3 t12 t29) fun t30 =>
  Do (aSlice .string 1 a0 (some t12) (some t30) none) fun t31 =>
  Do (fun x => aConvN 71 3 t11 x Go.Proofs.Try.prog) fun t34 =>
  Do (aBin Go.Proofs.Try.prog .add 3 t12 t34) fun t35 =>
  Q (.ret (.tuple [t31, t35, (.val (.bool true))])) σ)
theorem ref01_Text.eq (a0 : AV) (σ : Store) (Q : AEnd → Store → Prop) : vc (semOf Go.Proofs.Try.prog ref01_Text.mark) Go.Proofs.Try.f51.ntmps ref01_Text.ann (bodyOf Go.Proofs.Try.f51) (endK [.tmp 2, .tmp 3, .tmp 4] Q) (argFr [a0]) σ = ref01_Text.sh a0 σ Q := by kernel_rfl
theorem ref01_Text.go {a0 : AV} {σ : Store} {Q : AEnd → Store → Prop} (h : ref01_Text.sh a0 σ Q) : ACalls Go.Proofs.Try.prog 51 [a0] σ Q :=
  acalls_of_eq [.tmp 2, .tmp 3, .tmp 4] Go.Proofs.Try.func51 (by kernel_rfl) (by kernel_rfl) (by kernel_rfl) (by kernel_rfl) (ref01_Text.eq a0 σ Q) h
theorem textG_eq (l : List UInt8) : textG l = if getO l = true then (if l.length - getN l < getV l then none else some ((l.drop (getN l)).take (getV l), getN l + getV l)) else none := by
  unfold textG getO getN getV
  cases getG l with
  | none => rfl
  | some r => rfl
theorem t_fail {l : List UInt8} (h : textG l = none) : AEnd.ret (.tuple [.val (.string ⟨#[]⟩), I .i64 0, B false]) = .ret (.tuple [S (textV l), I .i64 (textN l : Nat), B (textO l)]) := by
  simp [textV, textN, textO, h]
theorem t_done {l t : List UInt8} {n : Nat} (h : textG l = some (t, n)) : AEnd.ret (.tuple [S t, I .i64 (n : Nat), B true]) = .ret (.tuple [S (textV l), I .i64 (textN l : Nat), B (textO l)]) := by
  simp [textV, textN, textO, h]
theorem codec_Text_ok (l : List UInt8) (m : SM) (hl : l.length ≤ 1000000000000000) : aPure Go.Proofs.Try.prog 77 [.lst 1 (l.map byt) m] (.tuple [S (textV l), I .i64 (textN l : Nat), B (textO l)]) := by
  refine codec_Text.go ?_
  unfold codec_Text.sh
  obtain ⟨b1, b2, b3, b4⟩ := get_bound (s := l)
  have hu := u64_len b1
  repeat' (first | with_reducible apply Stp.go | with_reducible refine imp fun _ => ?_ | (with_reducible refine hyp ?_ ?_; first | assumption | exact leftT_mem (by assumption)) | (with_reducible refine need ?_ ?_; first | trivial | omega | exact ⟨by assumption, by omega⟩ | (simp only [List.length_append, List.length_cons, List.length_nil, List.length_map, List.length_take, List.length_drop, List.length_replicate, List.length_set]; omega)) | (with_reducible refine fact ?_ ?_; first | trivial | exact ⟨rfl, rfl⟩ | kernel_rfl) | with_reducible refine choT (by assumption) ?_ | with_reducible refine choF (by assumption) ?_ | with_reducible refine choF' (by assumption) ?_ | (with_reducible refine altT ?_ ?_; first | omega | (simp only [List.length_append, List.length_cons, List.length_nil, List.length_map, List.length_take, List.length_drop, List.length_replicate, List.length_set]; omega)) | with_reducible refine altF ?_ | with_reducible refine all fun _ => ?_ | with_reducible refine both ?_ ?_ | (with_reducible refine choT ?_ ?_; omega) | (with_reducible refine choF ?_ ?_; omega) | with_reducible refine cho (fun _ => ?_) (fun _ => ?_))
  · rename_i h1 h2
    refine ⟨t_fail ?_, rfl⟩
    rw [textG_eq, if_pos h1, if_pos (by omega)]
  · rename_i h1 h2
    rw [Nat.mod_eq_of_lt b1]
    refine ⟨t_done ?_, rfl⟩
    rw [textG_eq, if_pos h1, if_neg (by omega), List.drop_take, Nat.add_sub_cancel_left]
  · rename_i h1
    refine ⟨t_fail ?_, rfl⟩
    rw [textG_eq, if_neg h1]
instance {a : AV} {l : List UInt8} {m : SM} [h : IsL a byt 1 l m] : PC Go.Proofs.Try.prog 77 [a] (l.length ≤ 1000000000000000) (.tuple [S (textV l), I .i64 (textN l : Nat), B (textO l)]) := ⟨fun hl => ⟨[.lst 1 (l.map byt) m], ⟨h.sub, trivial⟩, codec_Text_ok l m hl⟩⟩
theorem ref01_Text_ok (l : List UInt8) (hl : l.length ≤ 1000000000000000) : aPure Go.Proofs.Try.prog 51 [S l] (.tuple [S (textV l), I .i64 (textN l : Nat), B (textO l)]) := by
  refine ref01_Text.go ?_
  unfold ref01_Text.sh
  obtain ⟨b1, b2, b3, b4⟩ := get_bound (s := l)
  have hu := u64_len b1
  repeat' (first | with_reducible apply Stp.go | with_reducible refine imp fun _ => ?_ | (with_reducible refine hyp ?_ ?_; first | assumption | exact leftT_mem (by assumption)) | (with_reducible refine need ?_ ?_; first | trivial | omega | exact ⟨by assumption, by omega⟩ | (simp only [List.length_append, List.length_cons, List.length_nil, List.length_map, List.length_take, List.length_drop, List.length_replicate, List.length_set]; omega)) | (with_reducible refine fact ?_ ?_; first | trivial | exact ⟨rfl, rfl⟩ | kernel_rfl) | with_reducible refine choT (by assumption) ?_ | with_reducible refine choF (by assumption) ?_ | with_reducible refine choF' (by assumption) ?_ | (with_reducible refine altT ?_ ?_; first | omega | (simp only [List.length_append, List.length_cons, List.length_nil, List.length_map, List.length_take, List.length_drop, List.length_replicate, List.length_set]; omega)) | with_reducible refine altF ?_ | with_reducible refine all fun _ => ?_ | with_reducible refine both ?_ ?_ | (with_reducible refine choT ?_ ?_; omega) | (with_reducible refine choF ?_ ?_; omega) | with_reducible refine cho (fun _ => ?_) (fun _ => ?_))
  · rename_i h1 h2
    refine ⟨t_fail ?_, rfl⟩
    rw [textG_eq, if_pos h1, if_pos (by omega)]
  · rename_i h1 h2
    rw [Nat.mod_eq_of_lt b1]
    refine ⟨t_done ?_, rfl⟩
    rw [textG_eq, if_pos h1, if_neg (by omega), List.drop_take, Nat.add_sub_cancel_left]
  · rename_i h1
    refine ⟨t_fail ?_, rfl⟩
    rw [textG_eq, if_neg h1]
instance {l : List UInt8} : PC Go.Proofs.Try.prog 51 [S l] (l.length ≤ 1000000000000000) (.tuple [S (textV l), I .i64 (textN l : Nat), B (textO l)]) := ⟨fun hl => PC.of (ref01_Text_ok l hl)⟩
end Go.Ab

/- Reading an entry. -/
set_option linter.unusedVariables false
set_option linter.unusedSimpArgs false
namespace Go.Ab
def entry_reader_number.mark : Mark := ⟨fun t => Nat.beq t 16, fun t => false, fun t => false, fun t => false, fun t => false⟩
def entry_reader_number.ann : Ann := ⟨fun n => [], fun n => none, fun n => none⟩
def entry_reader_text.mark : Mark := ⟨fun t => Nat.beq t 16, fun t => false, fun t => false, fun t => false, fun t => false⟩
def entry_reader_text.ann : Ann := ⟨fun n => [], fun n => none, fun n => none⟩
def entry_Parse.mark : Mark := ⟨fun t => Nat.beq t 45, fun t => false, fun t => false, fun t => Nat.beq t 14 || Nat.beq t 27, fun t => false⟩
def entry_Parse.ann : Ann := ⟨fun n => [], fun n => bif Nat.beq n 8 then some [2, 5, 7] else none, fun n => bif Nat.beq n 5 then some [2, 5, 7] else bif Nat.beq n 10 then some [2, 3, 4] else none⟩
end Go.Ab

/- Layer 11: what is shown in any case; TableLevels, TableKnown. -/
set_option linter.unusedVariables false
set_option linter.unusedSimpArgs false
namespace Go.Ab
section tabld
variable {b : Nat} {t : TypeId} {lev n : Int} {d f g : List UInt8} {σ rest : Store} {put : Ent → Store} {k : AV → Store → Prop} {K : AV → Prop}
theorem tab_drop [hc : Len32 d] : (tabCs lev n d f g).drop 34 = [S f, S g] := by
  show (d.map byt ++ [S f, S g]).drop 32 = _
  rw [List.drop_left' (by simp [hc.len])]
theorem tab_drop1 [hc : Len32 d] : (tabCs lev n d f g).drop 35 = [S g] := by
  rw [show (35 : Nat) = 34 + 1 from rfl, ← List.drop_drop, tab_drop]; rfl
instance (priority := 75) ldT34 [hc : Len32 d] [hv : VarAt b σ t (tabCs lev n d f g) put rest] : Stp (Do (loadA false 1 (ptrAt b 34) σ) K) (K (S f)) := ⟨fun hK => by
  obtain ⟨σ1, σ2, e, _⟩ := hv.at_
  exact ⟨_, ⟨by decide, fun _ => rfl, rfl, t, _, by rw [e]; exact List.mem_append.2 (.inr (List.mem_cons_self ..)), by rw [tabCs_len]; show 34 + 1 ≤ 36; omega, by show _ = mkV false (((tabCs lev n d f g).drop 34).take 1); rw [tab_drop]; rfl⟩, hK⟩⟩
instance (priority := 75) ldT35 [hc : Len32 d] [hv : VarAt b σ t (tabCs lev n d f g) put rest] : Stp (Do (loadA false 1 (ptrAt b 35) σ) K) (K (S g)) := ⟨fun hK => by
  obtain ⟨σ1, σ2, e, _⟩ := hv.at_
  exact ⟨_, ⟨by decide, fun _ => rfl, rfl, t, _, by rw [e]; exact List.mem_append.2 (.inr (List.mem_cons_self ..)), by rw [tabCs_len]; show 35 + 1 ≤ 36; omega, by show _ = mkV false (((tabCs lev n d f g).drop 35).take 1); rw [tab_drop1]; rfl⟩, hK⟩⟩
end tabld
/-! what is known of a table -/
section told
variable {a : AV} {m : SM} {b : Int} {l : List En} {lev : Int}
end told
end Go.Ab

/- Layer 11: what is shown in any case; TableLevels, TableKnown. -/
set_option linter.unusedVariables false
set_option linter.unusedSimpArgs false
namespace Go.Ab
section told
variable {a : AV} {m : SM} {b : Int} {l : List En} {x : Int}
theorem desc11 [h : IsL a En.av 4 l m] {lev : Nat} (hx : x = (lev : Nat)) (hf : fit l = true) (hv : lev < 4) : PC Go.Proofs.Try.prog 15 [trA b, .val (.int .i64 x), a] True (.tuple [tabA x (l.length : Nat) (rootD b (l.map enB)) (l.getD 0 default).key (l.getD (l.length - 1) default).key, .val (.int .i64 0)]) := ⟨fun _ => by
  subst hx
  have h64 := (fit_right hf).1
  have hd : dFit lev l = true := by unfold dFit; rw [hf, decide_eq_true hv]; rfl
  have := (inferInstance : PC Go.Proofs.Try.prog 15 [trA b, .val (.int .i64 ((lev : Nat) : Int)), a] _ _).ct ⟨by omega, by omega⟩
  unfold dLev dCnt dRoot dFst dLst dErr at this
  simp only [if_pos hd] at this
  exact this⟩
end told
def law11_shown.mark : Mark := ⟨fun t => Nat.beq t 10 || Nat.beq t 16 || Nat.beq t 64 || Nat.beq t 67, fun t => false, fun t => false, fun t => false, fun t => false⟩
def law11_shown.ann : Ann := ⟨fun n => [], fun n => none, fun n => none⟩
/-- 'marlstone/marlstonelaw11.shown' -/
def law11_shown.sh (σ : Store) (Q : AEnd → Store → Prop) : Prop :=
  Do (aLit [.val (.string ⟨#[]⟩), .val (.string ⟨#[]⟩), .val (.bool false), .val (.int .i64 0)] [(0, 1), (1, 1), (2, 1), (3, 1)] [(0, (.val (.string ⟨#[97]⟩))), (1, (.val (.string ⟨#[118]⟩))), (3, (.val (.int .i64 1)))]) fun t6 =>
  Do (aSlLit (mkE [.val (.string ⟨#[]⟩), .val (.string ⟨#[]⟩), .val (.bool false), .val (.int .i64 0)]) 4 1 [(0, t6)]) fun t7 =>
  Do (aPureC Go.Proofs.Try.prog 13 [t7]) fun t10 =>
  Do (aExt t10 0) fun t11 =>
  Do (aExt t10 1) fun t12 =>
  Do (aLit [.val (.int .i64 0)] [(0, 1)] [(0, (.val (.int .i64 256)))]) fun t14 =>
  Do (aPureC Go.Proofs.Try.prog 15 [t14, (.val (.int .i64 2)), t7]) fun t16 =>
  Do (aExt t16 0) fun t17 =>
  Do (aExt t16 1) fun t18 =>
  aNewVar 34 [.val (.int .i64 0), .val (.int .i64 0), .val (.int .u8 0), .val (.int .u8 0), .val (.int .u8 0), .val (.int .u8 0), .val (.int .u8 0), .val (.int .u8 0), .val (.int .u8 0), .val (.int .u8 0), .val (.int .u8 0), .val (.int .u8 0), .val (.int .u8 0), .val (.int .u8 0), .val (.int .u8 0), .val (.int .u8 0), .val (.int .u8 0), .val (.int .u8 0), .val (.int .u8 0), .val (.int .u8 0), .val (.int .u8 0), .val (.int .u8 0), .val (.int .u8 0), .val (.int .u8 0), .val (.int .u8 0), .val (.int .u8 0), .val (.int .u8 0), .val (.int .u8 0), .val (.int .u8 0), .val (.int .u8 0), .val (.int .u8 0), .val (.int .u8 0), .val (.int .u8 0), .val (.int .u8 0), .val (.string ⟨#[]⟩), .val (.string ⟨#[]⟩)] σ fun t4 σ =>
  storeA 36 t4 t17 σ fun u σ_1 =>
  Do (aBuiltin Go.Proofs.Try.prog .len #[25] [t11]) fun t20 =>
  Do (aBin Go.Proofs.Try.prog .eql 3 t20 (.val (.int .i64 30))) fun t21 =>
  Do (aGuard t21 true (aIs t12)) fun t23 =>
  Do (aGuard t21 true (aBin Go.Proofs.Try.prog .eql 26 t23 (.val (.int .i64 0)))) fun t24 =>
  Do (aPick t21 t24 (.val (.bool false))) fun t25 =>
  Do (aGuard t25 true (aIs t11)) fun t27 =>
  Do (aGuard t25 true (aSlice .slice 1 t27 none (some (.val (.int .i64 4))) none)) fun t28 =>
  Do (aGuard t25 true (aConvBS t28)) fun t29 =>
  Do (aGuard t25 true (aBin Go.Proofs.Try.prog .eql 9 t29 (.val (.string ⟨#[77, 65, 82, 76]⟩)))) fun t30 =>
  Do (aPick t25 t30 (.val (.bool false))) fun t31 =>
  Do (aGuard t31 true (aIs t11)) fun t33 =>
  Do (aGuard t31 true (aSlice .slice 1 t33 (some (.val (.int .i64 19))) none none)) fun t34 =>
  Do (aGuard t31 true (aConvBS t34)) fun t35 =>
  Do (aGuard t31 true (aBin Go.Proofs.Try.prog .eql 9 t35 (.val (.string ⟨#[1, 97, 15, 0, 0, 0, 1, 0, 0, 0, 19]⟩)))) fun t36 =>
  Do (aPick t31 t36 (.val (.bool false))) fun t37 =>
  Do (aGuard t37 true (aFieldAddr 0 1 t4)) fun t39 =>
  Do (aGuard t37 true (loadA false 1 t39 σ_1)) fun t40 =>
  Do (aGuard t37 true (aBin Go.Proofs.Try.prog .eql 3 t40 (.val (.int .i64 2)))) fun t41 =>
  Do (aPick t37 t41 (.val (.bool false))) fun t42 =>
  Do (aGuard t42 true (aFieldAddr 1 1 t4)) fun t44 =>
  Do (aGuard t42 true (loadA false 1 t44 σ_1)) fun t45 =>
  Do (aGuard t42 true (aBin Go.Proofs.Try.prog .eql 3 t45 (.val (.int .i64 1)))) fun t46 =>
  Do (aPick t42 t46 (.val (.bool false))) fun t47 =>
  Do (aGuard t47 true (aFieldAddr 34 1 t4)) fun t49 =>
  Do (aGuard t47 true (loadA false 1 t49 σ_1)) fun t50 =>
  Do (aGuard t47 true (aBin Go.Proofs.Try.prog .eql 9 t50 (.val (.string ⟨#[97]⟩)))) fun t51 =>
  Do (aPick t47 t51 (.val (.bool false))) fun t52 =>
  Do (aGuard t52 true (aFieldAddr 35 1 t4)) fun t54 =>
  Do (aGuard t52 true (loadA false 1 t54 σ_1)) fun t55 =>
  Do (aGuard t52 true (aBin Go.Proofs.Try.prog .eql 9 t55 (.val (.string ⟨#[97]⟩)))) fun t56 =>
  Do (aPick t52 t56 (.val (.bool false))) fun t57 =>
  Do (aGuard t57 true (aIs t18)) fun t59 =>
  Do (aGuard t57 true (aBin Go.Proofs.Try.prog .eql 26 t59 (.val (.int .i64 0)))) fun t60 =>
  Do (aPick t57 t60 (.val (.bool false))) fun t61 =>
  Do (aGuard t61 true (aIs t7)) fun t63 =>
  Do (aGuard t61 true (aPureC Go.Proofs.Try.prog 20 [t63])) fun t64 =>
  Do (aPick t61 t64 (.val (.bool false))) fun t65 =>
  Do (aGuard t65 true (aPureC Go.Proofs.Try.prog 20 [(.val (.slice none 0 0))])) fun t67 =>
  Do (aGuard t65 true (aUn Go.Proofs.Try.prog .not t67)) fun t68 =>
  Do (aPick t65 t68 (.val (.bool false))) fun t69 =>
  Q (.ret t69) σ_1
theorem law11_shown.eq (σ : Store) (Q : AEnd → Store → Prop) : vc (semOf Go.Proofs.Try.prog law11_shown.mark) Go.Proofs.Try.f11.ntmps law11_shown.ann (bodyOf Go.Proofs.Try.f11) (endK [.tmp 0] Q) (argFr []) σ = law11_shown.sh  σ Q := by kernel_rfl
theorem law11_shown.go {σ : Store} {Q : AEnd → Store → Prop} (h : law11_shown.sh  σ Q) : ACalls Go.Proofs.Try.prog 11 [] σ Q :=
  acalls_of_eq [.tmp 0] Go.Proofs.Try.func11 (by kernel_rfl) (by kernel_rfl) (by kernel_rfl) (by kernel_rfl) (law11_shown.eq  σ Q) h
theorem shown11_ok : aPure Go.Proofs.Try.prog 11 [] (B true) := by
  refine ACalls.fin (law11_shown.go ?_)
  unfold law11_shown.sh
  have e1 : fit [⟨[97], [118], false, 1⟩] = true := by decide
  have e0 : fit [] = false := by decide
  have ec : chunksE [⟨[97], [118], false, 1⟩] = [[⟨[97], [118], false, 1⟩]] := by decide
  have eb : blkB [⟨[97], [118], false, 1⟩] = [0, 1, 97, 0, 1, 1, 118, 0, 0, 0, 0, 0, 0, 0, 1] := by
    simp [blkB, e1, blockBytes, blk, encE, sharedAt, common, fixed, put_small]
  have e2 : tbB [⟨[97], [118], false, 1⟩] = [77, 65, 82, 76, 0, 1, 97, 0, 1, 1, 118, 0, 0, 0, 0, 0, 0, 0, 1, 1, 97, 15, 0, 0, 0, 1, 0, 0, 0, 19] := by
    simp [tbB, e1, ec, partsB, headB, blocksB, indexB, idxE, eb, lettersB, fixed, put_small]
  have e3 : tbE [⟨[97], [118], false, 1⟩] = 0 := by simp [tbE, e1]
  have iD : ∀ {a : AV} {m : SM} [h : IsL a En.av 4 [⟨[97], [118], false, 1⟩] m], PC Go.Proofs.Try.prog 15 [trA 256, .val (.int .i64 2), a] True _ := desc11 (b := 256) (lev := 2) rfl e1 (by decide)
  have iB : ∀ {a : AV} {m : SM} [h : IsL a En.av 4 [⟨[97], [118], false, 1⟩] m], PC Go.Proofs.Try.prog 13 [a] True (.tuple [.lst 1 (([77, 65, 82, 76, 0, 1, 97, 0, 1, 1, 118, 0, 0, 0, 0, 0, 0, 0, 1, 1, 97, 15, 0, 0, 0, 1, 0, 0, 0, 19] : List UInt8).map byt) .ro, .val (.int .i64 0)]) := fun {a m h} => ⟨fun _ => by
    have := (inferInstance : PC Go.Proofs.Try.prog 13 [a] _ _).ct (show ([⟨[97], [118], false, 1⟩] : List En).length ≤ 1000000000 by decide)
    rw [e2, e3] at this
    exact this⟩
  repeat' (first | with_reducible apply Stp.go | with_reducible refine imp fun _ => ?_ | (with_reducible refine hyp ?_ ?_; first | assumption | exact leftT_mem (by assumption)) | (with_reducible refine need ?_ ?_; first | trivial | omega | exact ⟨by assumption, by omega⟩ | (simp only [List.length_append, List.length_cons, List.length_nil, List.length_map, List.length_take, List.length_drop, List.length_replicate, List.length_set]; omega)) | (with_reducible refine fact ?_ ?_; first | trivial | exact ⟨rfl, rfl⟩ | kernel_rfl) | with_reducible refine choT (by assumption) ?_ | with_reducible refine choF (by assumption) ?_ | with_reducible refine choF' (by assumption) ?_ | (with_reducible refine altT ?_ ?_; first | omega | (simp only [List.length_append, List.length_cons, List.length_nil, List.length_map, List.length_take, List.length_drop, List.length_replicate, List.length_set]; omega)) | with_reducible refine altF ?_ | with_reducible refine all fun _ => ?_ | with_reducible refine both ?_ ?_ | (with_reducible refine choT ?_ ?_; omega) | (with_reducible refine choF ?_ ?_; omega) | with_reducible refine cho (fun _ => ?_) (fun _ => ?_))
  all_goals first
    | exact ⟨_, _, _, rfl, Sub.app_nil _, rfl, rfl⟩
    | contradiction
    | (exfalso; rename_i h; exact h rfl)
    | (exfalso; rename_i h; exact h (by decide))
    | trace_state
instance shown11I : PC Go.Proofs.Try.prog 11 [] True (B true) := ⟨fun _ => PC.of shown11_ok⟩
end Go.Ab

/- Layer 11: TableBlocks. -/
set_option linter.unusedVariables false
set_option linter.unusedSimpArgs false
namespace Go.Ab
/-- The part of a list by its number. -/
def partE (L : List En) (q : Nat) : List En := (L.drop (16 * q)).take 16
theorem chunks_at (L : List En) (q : Nat) (h : 16 * q < L.length) : (chunksE L).drop q = partE L q :: (chunksE L).drop (q + 1) := by
  have hq : q < (chunksE L).length := by simp only [chunksE, List.length_map, List.length_range]; omega
  rw [List.drop_eq_getElem_cons hq]
  congr 1
  simp only [chunksE, List.getElem_map, List.getElem_range, partE]
theorem chunks_len (L : List En) : (chunksE L).length = (L.length + 15) / 16 := by simp [chunksE]
theorem chunks_part {L p : List En} (h : p ∈ chunksE L) : PartOf L p := by
  simp only [chunksE, List.mem_map, List.mem_range] at h
  obtain ⟨q, hq, rfl⟩ := h
  exact ⟨16 * q, by omega, rfl⟩
theorem tbB_len (L : List En) : (tbB L).length ≤ 1000000 := by
  unfold tbB
  split
  · rename_i hf
    have h64 := (fit_right hf).1
    have hc := chunks_len L
    have hps : ∀ q ∈ chunksE L, q.length ≤ 16 ∧ (q.getD 0 default).key.length ≤ 128 := fun q hq => by
      obtain ⟨h1, h2, h3⟩ := fit_part hf (chunks_part hq)
      exact ⟨h3, (right_bounds ((fit_right h1).2.2.2 0 h2)).2.1⟩
    have hi := indexB_le hps
    have hh := headB_le (fun q hq => (hps q hq).1)
    unfold partsB
    simp only [List.length_append, fixed, List.length_cons, List.length_nil]
    omega
  · simp
def law11_TableBlocks.mark : Mark := ⟨fun t => Nat.beq t 10 || Nat.beq t 12 || Nat.beq t 19 || Nat.beq t 37, fun t => false, fun t => false, fun t => false, fun t => false⟩
def law11_TableBlocks.ann : Ann := ⟨fun n => bif Nat.beq n 8 then [0, 3, 4, 6, 7] else [], fun n => none, fun n => none⟩
end Go.Ab

/- ref11.Bytes. -/
set_option linter.unusedVariables false
set_option linter.unusedSimpArgs false
namespace Go.Ab
theorem chunk_take {L : List En} (q : Nat) (h : 16 * q < L.length) : (chunksE L).take (q + 1) = (chunksE L).take q ++ [partE L q] := by
  have hd := chunks_at L q h
  have hq : q < (chunksE L).length := by rw [chunks_len]; omega
  rw [List.take_add_one, List.getElem?_eq_getElem hq]
  have h2 := List.drop_eq_getElem_cons hq
  rw [hd] at h2
  injection h2 with h3 h4
  rw [← h3]; rfl
theorem part_slice (L : List En) (q : Nat) : (L.take (min L.length (16 * q + 16))).drop (16 * q) = partE L q := by
  unfold partE
  rw [List.drop_take]
  by_cases hm : L.length ≤ 16 * q + 16
  · rw [Nat.min_eq_left hm, List.take_of_length_le (by simp), List.take_of_length_le (by simp only [List.length_drop]; omega)]
  · rw [Nat.min_eq_right (by omega), show 16 * q + 16 - 16 * q = 16 by omega]
theorem part_head (L : List En) (q : Nat) (h : 16 * q < L.length) : (partE L q).getD 0 default = L.getD (16 * q) default := by
  rw [partE, List.getD_eq_getElem?_getD, List.getD_eq_getElem?_getD, List.getElem?_take_of_lt (by omega), List.getElem?_drop, Nat.add_zero]
def ref11_Bytes.mark : Mark := ⟨fun t => Nat.beq t 12 || Nat.beq t 30 || Nat.beq t 42 || Nat.beq t 46 || Nat.beq t 54 || Nat.beq t 58, fun t => false, fun t => false, fun t => Nat.beq t 41, fun t => false⟩
def ref11_Bytes.ann : Ann := ⟨fun n => bif Nat.beq n 8 then [0, 5, 6, 7, 8] else [], fun n => none, fun n => none⟩
/-- 'marlstone/marlstoneref11.Bytes' -/
def ref11_Bytes.sh (a0 : AV) (σ : Store) (Q : AEnd → Store → Prop) : Prop :=
  Do (aPureC Go.Proofs.Try.prog 35 [a0]) fun t12 =>
  Do (aUn Go.Proofs.Try.prog .not t12) fun t14 =>
  aCond t14
    (Q (.ret (.tuple [(.val (.string ⟨#[]⟩)), (.val (.int .i64 1))])) σ)
    (aLoop (fun go vs σ =>
    At vs 0 fun s0 => At vs 1 fun s5 => At vs 2 fun s6 => At vs 3 fun s7 => At vs 4 fun s8 => Do (aBuiltin Go.Proofs.Try.prog .len #[22] [s0]) fun t17 =>
    Do (aBin Go.Proofs.Try.prog .lss 3 s8 t17) fun t18 =>
    aCond t18
      (Do (aBuiltin Go.Proofs.Try.prog .len #[22] [s0]) fun t25 =>
    Do (aBin Go.Proofs.Try.prog .add 3 s8 (.val (.int .i64 16))) fun t27 =>
    Do (aBuiltin Go.Proofs.Try.prog .min #[3, 3] [t25, t27]) fun t28 =>
    Do (aSlice .slice 4 s0 (some s8) (some t28) none) fun t29 =>
    Do (aPureC Go.Proofs.Try.prog 36 [t29]) fun t30 =>
    Do (aExt t30 0) fun t31 =>
    Do (aExt t30 1) fun t32 =>
    Do (aBin Go.Proofs.Try.prog .add 9 s5 t31) fun t35 =>
    Do (aIndexAddr .slice 4 s0 s8) fun t39 =>
    Do (aFieldAddr 0 1 t39) fun t40 =>
    Do (loadF false 1 t40) fun t41 =>
    Do (aPureC Go.Proofs.Try.prog 38 [s6, t41]) fun t42 =>
    Do (aBuiltin Go.Proofs.Try.prog .len #[9] [t31]) fun t44 =>
    Do (fun x => aConvN 3 71 t44 x Go.Proofs.Try.prog) fun t45 =>
    Do (aPureC Go.Proofs.Try.prog 37 [t42, t45]) fun t46 =>
    Do (aBin Go.Proofs.Try.prog .add 3 s7 (.val (.int .i64 1))) fun t48 =>
    Do (aBin Go.Proofs.Try.prog .add 3 s8 (.val (.int .i64 16))) fun t20 =>
    go [s0, t35, t46, t48, t20] σ)
      (Do (aBin Go.Proofs.Try.prog .add 9 s5 s6) fun t51 =>
  Do (fun x => aConvN 3 73 s7 x Go.Proofs.Try.prog) fun t53 =>
  Do (aPureC Go.Proofs.Try.prog 39 [t51, t53]) fun t54 =>
  Do (aBuiltin Go.Proofs.Try.prog .len #[9] [s5]) fun t56 =>
  Do (fun x => aConvN 3 73 t56 x Go.Proofs.Try.prog) fun t57 =>
  Do (aPureC Go.Proofs.Try.prog 39 [t54, t57]) fun t58 =>
  Q (.ret (.tuple [t58, (.val (.int .i64 0))])) σ))
    [a0, (.val (.string ⟨#[77, 65, 82, 76]⟩)), (.val (.string ⟨#[]⟩)), (.val (.int .i64 0)), (.val (.int .i64 0))] σ)
theorem ref11_Bytes.eq (a0 : AV) (σ : Store) (Q : AEnd → Store → Prop) : vc (semOf Go.Proofs.Try.prog ref11_Bytes.mark) Go.Proofs.Try.f14.ntmps ref11_Bytes.ann (bodyOf Go.Proofs.Try.f14) (endK [.tmp 2, .tmp 3] Q) (argFr [a0]) σ = ref11_Bytes.sh a0 σ Q := by kernel_rfl
theorem ref11_Bytes.go {a0 : AV} {σ : Store} {Q : AEnd → Store → Prop} (h : ref11_Bytes.sh a0 σ Q) : ACalls Go.Proofs.Try.prog 14 [a0] σ Q :=
  acalls_of_eq [.tmp 2, .tmp 3] Go.Proofs.Try.func14 (by kernel_rfl) (by kernel_rfl) (by kernel_rfl) (by kernel_rfl) (ref11_Bytes.eq a0 σ Q) h
theorem ref11_Bytes_ok (l : List En) (m : SM) (hl : l.length ≤ 1000000000) : aPure Go.Proofs.Try.prog 14 [.lst 4 (l.map En.av) m] (.tuple [S (tbB l), I .i64 (tbE l : Nat)]) := by
  refine ACalls.fin (ref11_Bytes.go ?_)
  unfold ref11_Bytes.sh
  by_cases hf : fit l = true
  · have h64 := (fit_right hf).1
    have hps : ∀ ps : List (List En), (∀ p ∈ ps, PartOf l p) → (headB ps).length ≤ 4 + 20000 * ps.length ∧ (indexB ps).length ≤ 200 * ps.length := fun ps h => by
      have h2 : ∀ q ∈ ps, q.length ≤ 16 ∧ (q.getD 0 default).key.length ≤ 128 := fun q hq => by
        obtain ⟨h1, h2, h3⟩ := fit_part hf (h q hq)
        exact ⟨h3, (right_bounds ((fit_right h1).2.2.2 0 h2)).2.1⟩
      exact ⟨headB_le fun q hq => (h2 q hq).1, indexB_le h2⟩
    have hcl := chunks_len l
    repeat' (first | with_reducible apply Stp.go | with_reducible refine imp fun _ => ?_ | (with_reducible refine hyp ?_ ?_; first | assumption | exact leftT_mem (by assumption)) | (with_reducible refine need ?_ ?_; first | trivial | omega | exact ⟨by assumption, by omega⟩ | (simp only [List.length_append, List.length_cons, List.length_nil, List.length_map, List.length_take, List.length_drop, List.length_replicate, List.length_set]; omega)) | (with_reducible refine fact ?_ ?_; first | trivial | exact ⟨rfl, rfl⟩ | kernel_rfl) | with_reducible refine choT (by assumption) ?_ | with_reducible refine choF (by assumption) ?_ | with_reducible refine choF' (by assumption) ?_ | (with_reducible refine altT ?_ ?_; first | omega | (simp only [List.length_append, List.length_cons, List.length_nil, List.length_map, List.length_take, List.length_drop, List.length_replicate, List.length_set]; omega)) | with_reducible refine altF ?_ | with_reducible refine all fun _ => ?_ | with_reducible refine both ?_ ?_ | (with_reducible refine choT ?_ ?_; omega) | (with_reducible refine choF ?_ ?_; omega) | with_reducible refine cho (fun _ => ?_) (fun _ => ?_))
    all_goals first
      | contradiction
      | skip
    refine loopI (β := Nat) (fun q => q ≤ (chunksE l).length) (fun q => [.lst 4 (l.map En.av) m, S (headB ((chunksE l).take q)), S (indexB ((chunksE l).take q)), I .i64 (q : Nat), I .i64 ((16 * q : Nat) : Int)]) (fun _ => []) (fun q => (chunksE l).length - q) 0 (Nat.zero_le _) (Sub.refl _ _) ?_
    intro q hq
    obtain ⟨b1, b2⟩ := hps ((chunksE l).take q) fun p hp => chunks_part (List.mem_of_mem_take hp)
    have hql : ((chunksE l).take q).length = q := by rw [List.length_take]; omega
    by_cases hlt : 16 * q < l.length
    · obtain ⟨hfp, hp0, hp16⟩ := fit_part hf (⟨16 * q, hlt, rfl⟩ : PartOf l (partE l q))
      have hE : blkE (partE l q) = 0 := by simp [blkE, hfp]
      have hbl := blkB_le hp16
      have hpl := put_len64 (v := (l.getD (16 * q) default).key.length) (by
        have := (right_bounds ((fit_right hf).2.2.2 (16 * q) hlt)).2.1
        omega)
      have hkl := (right_bounds ((fit_right hf).2.2.2 (16 * q) hlt)).2.1
      have hx1 : (indexB ((chunksE l).take q) ++ (put (l.getD (16 * q) default).key.length ++ (l.getD (16 * q) default).key)).length ≤ 1000000 := by simp only [List.length_append]; omega
      have iB : PC Go.Proofs.Try.prog 36 [.lst 4 (((l.take (min l.length (16 * q + 16))).drop (16 * q)).map En.av) .ro] True (.tuple [S (blkB (partE l q)), .val (.int .i64 0)]) := ⟨fun _ => by
        rw [part_slice]
        have := PC.of (ref04_Bytes_ok (partE l q) .ro (by omega))
        rw [hE] at this
        exact this⟩
      have hqn : q < (chunksE l).length := by omega
      repeat' (first | with_reducible apply Stp.go | with_reducible refine imp fun _ => ?_ | (with_reducible refine hyp ?_ ?_; first | assumption | exact leftT_mem (by assumption)) | (with_reducible refine need ?_ ?_; first | trivial | omega | exact ⟨by assumption, by omega⟩ | (simp only [List.length_append, List.length_cons, List.length_nil, List.length_map, List.length_take, List.length_drop, List.length_replicate, List.length_set]; omega)) | (with_reducible refine fact ?_ ?_; first | trivial | exact ⟨rfl, rfl⟩ | kernel_rfl) | with_reducible refine choT (by assumption) ?_ | with_reducible refine choF (by assumption) ?_ | with_reducible refine choF' (by assumption) ?_ | (with_reducible refine altT ?_ ?_; first | omega | (simp only [List.length_append, List.length_cons, List.length_nil, List.length_map, List.length_take, List.length_drop, List.length_replicate, List.length_set]; omega)) | with_reducible refine altF ?_ | with_reducible refine all fun _ => ?_ | with_reducible refine both ?_ ?_ | (with_reducible refine choT ?_ ?_; omega) | (with_reducible refine choF ?_ ?_; omega) | with_reducible refine cho (fun _ => ?_) (fun _ => ?_))
      refine again (q + 1) (by omega) (by omega) ?_
      rw [chunk_take q hlt, headB_snoc, indexB_snoc, part_head l q hlt, show 16 * (q + 1) = 16 * q + 16 by omega]
      exact Sub.refl _ _
    · have e : (chunksE l).take q = chunksE l := List.take_of_length_le (by omega)
      rw [e] at b1 b2 hql ⊢
      have hx2 : (headB (chunksE l) ++ indexB (chunksE l)).length ≤ 1000000 := by simp only [List.length_append]; omega
      have hx3 : (headB (chunksE l) ++ indexB (chunksE l) ++ fixed q).length ≤ 1000000 := by simp only [List.length_append, fixed, List.length_cons, List.length_nil]; omega
      have hT : tbB l = headB (chunksE l) ++ indexB (chunksE l) ++ fixed q ++ fixed (headB (chunksE l)).length := by
        unfold tbB partsB
        rw [if_pos hf, hql]
      have hE : tbE l = 0 := by rw [tbE, if_pos hf]
      rw [hT, hE]
      repeat' (first | with_reducible apply Stp.go | with_reducible refine imp fun _ => ?_ | (with_reducible refine hyp ?_ ?_; first | assumption | exact leftT_mem (by assumption)) | (with_reducible refine need ?_ ?_; first | trivial | omega | exact ⟨by assumption, by omega⟩ | (simp only [List.length_append, List.length_cons, List.length_nil, List.length_map, List.length_take, List.length_drop, List.length_replicate, List.length_set]; omega)) | (with_reducible refine fact ?_ ?_; first | trivial | exact ⟨rfl, rfl⟩ | kernel_rfl) | with_reducible refine choT (by assumption) ?_ | with_reducible refine choF (by assumption) ?_ | with_reducible refine choF' (by assumption) ?_ | (with_reducible refine altT ?_ ?_; first | omega | (simp only [List.length_append, List.length_cons, List.length_nil, List.length_map, List.length_take, List.length_drop, List.length_replicate, List.length_set]; omega)) | with_reducible refine altF ?_ | with_reducible refine all fun _ => ?_ | with_reducible refine both ?_ ?_ | (with_reducible refine choT ?_ ?_; omega) | (with_reducible refine choF ?_ ?_; omega) | with_reducible refine cho (fun _ => ?_) (fun _ => ?_))
      exact ⟨_, _, _, rfl, Sub.app_nil _, rfl, rfl⟩
  · unfold tbB tbE
    rw [if_neg hf, if_neg hf]
    repeat' (first | with_reducible apply Stp.go | with_reducible refine imp fun _ => ?_ | (with_reducible refine hyp ?_ ?_; first | assumption | exact leftT_mem (by assumption)) | (with_reducible refine need ?_ ?_; first | trivial | omega | exact ⟨by assumption, by omega⟩ | (simp only [List.length_append, List.length_cons, List.length_nil, List.length_map, List.length_take, List.length_drop, List.length_replicate, List.length_set]; omega)) | (with_reducible refine fact ?_ ?_; first | trivial | exact ⟨rfl, rfl⟩ | kernel_rfl) | with_reducible refine choT (by assumption) ?_ | with_reducible refine choF (by assumption) ?_ | with_reducible refine choF' (by assumption) ?_ | (with_reducible refine altT ?_ ?_; first | omega | (simp only [List.length_append, List.length_cons, List.length_nil, List.length_map, List.length_take, List.length_drop, List.length_replicate, List.length_set]; omega)) | with_reducible refine altF ?_ | with_reducible refine all fun _ => ?_ | with_reducible refine both ?_ ?_ | (with_reducible refine choT ?_ ?_; omega) | (with_reducible refine choF ?_ ?_; omega) | with_reducible refine cho (fun _ => ?_) (fun _ => ?_))
    all_goals first
      | contradiction
      | exact ⟨_, _, _, rfl, Sub.app_nil _, rfl, rfl⟩
end Go.Ab

/- Reading a block: its entries, whole. No program in sight. -/
set_option linter.unusedVariables false
set_option linter.unusedSimpArgs false
namespace Go.Ab
/-- An entry behind a key, from its value on .. -/
def entG4 (k : List UInt8) (d : Bool) (q : Nat) (s : List UInt8) : Option (En × List UInt8) :=
  if d = true then some (⟨k, [], true, q⟩, s) else if textO s = true then some (⟨k, textV s, false, q⟩, s.drop (textN s)) else none
/-- .. from its number on .. -/
def entG3 (k : List UInt8) (d : Bool) (s : List UInt8) : Option (En × List UInt8) :=
  if getO s = true ∧ getV s ≤ 1099511627776 then entG4 k d (getV s) (s.drop (getN s)) else none
/-- .. from its flag on .. -/
def entG2 (k s : List UInt8) : Option (En × List UInt8) :=
  if 0 < s.length ∧ (s.getD 0 default).toNat ≤ 1 then entG3 k (decide ((s.getD 0 default).toNat = 1)) (s.drop 1) else none
/-- .. from the rest of its key on .. -/
def entG1 (k s : List UInt8) : Option (En × List UInt8) :=
  if textO s = true then entG2 (k ++ textV s) (s.drop (textN s)) else none
/-- .. and whole. -/
def entG (k s : List UInt8) : Option (En × List UInt8) :=
  if getO s = true ∧ getV s ≤ k.length then entG1 (k.take (getV s)) (s.drop (getN s)) else none
/-- At most so many entries more. -/
def entsA : Nat → List UInt8 → List UInt8 → List En → Option (List En)
  | 0, _, _, l => some l
  | n + 1, k, s, l => if s.length = 0 then some l else match entG k s with
    | none => none
    | some (e, r) => entsA n e.key r (l ++ [e])
def entsG (s : List UInt8) : Option (List En) := entsA 65 [] s []
def entsV (s : List UInt8) : List En := (entsG s).getD []
def entsO (s : List UInt8) : Bool := (entsG s).isSome
theorem text_le (s : List UInt8) : (textV s).length ≤ textN s := by
  unfold textN textV
  cases h : textG s with
  | none => simp
  | some r =>
    obtain ⟨t, n⟩ := r
    obtain ⟨h1, _⟩ := textG_back h
    simp only [Option.map_some, Option.getD_some, h1, List.length_append]
    omega
theorem entG_le {k s : List UInt8} {e : En} {r : List UInt8} (h : entG k s = some (e, r)) : e.key.length + r.length ≤ k.length + s.length ∧ e.val.length ≤ s.length ∧ 0 ≤ e.seq ∧ e.seq ≤ 1099511627776 := by
  obtain ⟨b1, b2, b3, b4⟩ := get_bound (s := s)
  unfold entG at h
  split at h
  · rename_i h0
    obtain ⟨s1, hs1⟩ : ∃ x, x = s.drop (getN s) := ⟨_, rfl⟩
    have l1 : s1.length ≤ s.length := by rw [hs1, List.length_drop]; omega
    rw [← hs1] at h
    unfold entG1 at h
    split at h
    · have t1 := text_le s1
      obtain ⟨t2, t3, t4⟩ := text_bound (s := s1)
      obtain ⟨s2, hs2⟩ : ∃ x, x = s1.drop (textN s1) := ⟨_, rfl⟩
      have l2 : s2.length + (textV s1).length ≤ s1.length := by rw [hs2, List.length_drop]; omega
      rw [← hs2] at h
      unfold entG2 at h
      split at h
      · obtain ⟨s3, hs3⟩ : ∃ x, x = s2.drop 1 := ⟨_, rfl⟩
        have l3 : s3.length ≤ s2.length := by rw [hs3, List.length_drop]; omega
        rw [← hs3] at h
        unfold entG3 at h
        split at h
        · rename_i h3
          obtain ⟨s4, hs4⟩ : ∃ x, x = s3.drop (getN s3) := ⟨_, rfl⟩
          have l4 : s4.length ≤ s3.length := by rw [hs4, List.length_drop]; omega
          rw [← hs4] at h
          unfold entG4 at h
          have hk : ((s.getD 0 default : UInt8)).toNat = (s.getD 0 default).toNat := rfl
          have htk : (k.take (getV s)).length ≤ k.length := by rw [List.length_take]; omega
          split at h
          · cases h
            simp only [List.length_append]
            refine ⟨by omega, by simp, by omega, by omega⟩
          · split at h
            · cases h
              have u1 := text_le s4
              obtain ⟨u2, u3, u4⟩ := text_bound (s := s4)
              simp only [List.length_append, List.length_drop]
              refine ⟨by omega, by omega, by omega, by omega⟩
            · cases h
        · cases h
      · cases h
    · cases h
  · cases h
theorem entsA_step {n : Nat} {k s : List UInt8} {l : List En} {e : En} {r : List UInt8} (h0 : ¬ s.length = 0) (h : entG k s = some (e, r)) : entsA (n + 1) k s l = entsA n e.key r (l ++ [e]) := by
  rw [entsA, if_neg h0, h]
theorem entsA_none {n : Nat} {k s : List UInt8} {l : List En} (h0 : ¬ s.length = 0) (h : entG k s = none) : entsA (n + 1) k s l = none := by
  rw [entsA, if_neg h0, h]
theorem entsA_nil {n : Nat} {k s : List UInt8} {l : List En} (h0 : s.length = 0) : entsA n k s l = some l := by
  cases n with
  | zero => rfl
  | succ n => rw [entsA, if_pos h0]
theorem entsA_next {k s : List UInt8} {l : List En} {e : En} {r : List UInt8} (hl : l.length ≤ 64) (h0 : 0 < s.length) (h : entG k s = some (e, r)) : entsA (65 - (l ++ [e]).length) e.key r (l ++ [e]) = entsA (65 - l.length) k s l := by
  have e1 : 65 - l.length = (65 - (l ++ [e]).length) + 1 := by simp; omega
  rw [e1, entsA_step (by omega) h]
theorem entsA_stop {k s : List UInt8} {l : List En} (hl : l.length ≤ 64) (h0 : 0 < s.length) (h : entG k s = none) : entsA (65 - l.length) k s l = none := by
  have e1 : 65 - l.length = (64 - l.length) + 1 := by omega
  rw [e1, entsA_none (by omega) h]
theorem entsA_end {k s : List UInt8} {l : List En} (hl : l.length ≤ 65) (h0 : s.length = 0 ∨ ¬ l.length ≤ 64) : entsA (65 - l.length) k s l = some l := by
  rcases h0 with h0 | h0
  · exact entsA_nil h0
  · rw [show 65 - l.length = 0 by omega]; rfl
theorem entsA_len : ∀ {n : Nat} {k s : List UInt8} {l r : List En}, entsA n k s l = some r → r.length ≤ l.length + n
  | 0, _, _, _, _, h => by cases h; exact Nat.le_refl _
  | n + 1, k, s, l, r, h => by
    rw [entsA] at h
    split at h
    · cases h; omega
    · split at h
      · cases h
      · have := entsA_len h
        rw [List.length_append] at this
        simp only [List.length_cons, List.length_nil] at this
        omega
theorem entsV_len (s : List UInt8) : (entsV s).length ≤ 65 := by
  unfold entsV
  cases h : entsG s with
  | none => simp
  | some l => have := entsA_len h; simpa using this
section steps
variable {k s : List UInt8} {d : Bool} {q : Nat}
theorem entG_pos (h : getO s = true ∧ getV s ≤ k.length) : entG k s = entG1 (k.take (getV s)) (s.drop (getN s)) := if_pos h
theorem entG_neg (h : ¬ (getO s = true ∧ getV s ≤ k.length)) : entG k s = none := if_neg h
theorem entG1_pos (h : textO s = true) : entG1 k s = entG2 (k ++ textV s) (s.drop (textN s)) := if_pos h
theorem entG1_neg (h : ¬ textO s = true) : entG1 k s = none := if_neg h
theorem entG2_pos (h : 0 < s.length ∧ (s.getD 0 default).toNat ≤ 1) : entG2 k s = entG3 k (decide ((s.getD 0 default).toNat = 1)) (s.drop 1) := if_pos h
theorem entG2_neg (h : ¬ (0 < s.length ∧ (s.getD 0 default).toNat ≤ 1)) : entG2 k s = none := if_neg h
theorem entG3_pos (h : getO s = true ∧ getV s ≤ 1099511627776) : entG3 k d s = entG4 k d (getV s) (s.drop (getN s)) := if_pos h
theorem entG3_neg (h : ¬ (getO s = true ∧ getV s ≤ 1099511627776)) : entG3 k d s = none := if_neg h
theorem entG4_del : entG4 k true q s = some (⟨k, [], true, q⟩, s) := if_pos rfl
theorem entG4_pos (h : textO s = true) : entG4 k false q s = some (⟨k, textV s, false, q⟩, s.drop (textN s)) := by rw [entG4, if_neg (by decide), if_pos h]
theorem entG4_neg (h : ¬ textO s = true) : entG4 k false q s = none := by rw [entG4, if_neg (by decide), if_neg h]
end steps
end Go.Ab

/- Reading a block: what goes through its bytes. -/
set_option linter.unusedVariables false
set_option linter.unusedSimpArgs false
namespace Go.Ab
instance : IfT Go.Proofs.Try.prog 20 := ⟨by kernel_rfl⟩
theorem und_bad : (Go.Proofs.Try.prog).underlying 124 = some (.struct #[]) := by kernel_rfl
instance : ConT Go.Proofs.Try.prog 124 := ⟨by rw [und_bad]; trivial⟩
instance : LenC [] 0 := ⟨rfl⟩
instance : Splice [] 0 [] [] := ⟨rfl, Nat.le_refl _⟩
abbrev badV : AV := .ifc 124 (.agg [])
def block_cursor_number.mark : Mark := ⟨fun t => Nat.beq t 12, fun t => false, fun t => false, fun t => false, fun t => false⟩
def block_cursor_number.ann : Ann := ⟨fun n => [], fun n => bif Nat.beq n 4 then some [0, 5, 6] else none, fun n => none⟩
/-- '(*marlstone/block.cursor).number' -/
def block_cursor_number.sh (a0 a1 : AV) (σ : Store) (Q : AEnd → Store → Prop) : Prop :=
  Do (aNil a0) fun t10 =>
  Do (loadA false 1 t10 σ) fun t11 =>
  Do (aPureC Go.Proofs.Try.prog 78 [t11]) fun t12 =>
  Do (aExt t12 0) fun t13 =>
  Do (aExt t12 1) fun t14 =>
  Do (aExt t12 2) fun t15 =>
  aJoin (fun j =>
    Do (aUn Go.Proofs.Try.prog .not t15) fun t17 =>
    Do (aGuard t17 false (aIs t13)) fun t19 =>
    Do (aGuard t17 false (aIs a1)) fun t20 =>
    Do (aGuard t17 false (aBin Go.Proofs.Try.prog .gtr 71 t19 t20)) fun t21 =>
    Do (aPick t17 (.val (.bool true)) t21) fun t22 =>
    aCond t22
      (Do (aLit [] [] []) fun t23 =>
      aPanic (.ifc 124 t23) σ (fun e σ_2 => Q (.pan e) σ_2))
      (j [a0, t13, t14] σ)) fun vs σ =>
  At vs 0 fun s0 => At vs 1 fun s5 => At vs 2 fun s6 => Do (aNil s0) fun t27 =>
  Do (loadA false 1 t27 σ) fun t28 =>
  Do (aSlice .slice 1 t28 (some s6) none none) fun t30 =>
  Do (aNil s0) fun t31 =>
  storeA 1 t31 t30 σ fun u_1 σ_3 =>
  Do (fun x => aConvN 71 3 s5 x Go.Proofs.Try.prog) fun t33 =>
  Q (.ret t33) σ_3
theorem block_cursor_number.eq (a0 a1 : AV) (σ : Store) (Q : AEnd → Store → Prop) : vc (semOf Go.Proofs.Try.prog block_cursor_number.mark) Go.Proofs.Try.f91.ntmps block_cursor_number.ann (bodyOf Go.Proofs.Try.f91) (endK [.tmp 4] Q) (argFr [a0, a1]) σ = block_cursor_number.sh a0 a1 σ Q := by kernel_rfl
theorem block_cursor_number.go {a0 a1 : AV} {σ : Store} {Q : AEnd → Store → Prop} (h : block_cursor_number.sh a0 a1 σ Q) : ACalls Go.Proofs.Try.prog 91 [a0, a1] σ Q :=
  acalls_of_eq [.tmp 4] Go.Proofs.Try.func91 (by kernel_rfl) (by kernel_rfl) (by kernel_rfl) (by kernel_rfl) (block_cursor_number.eq a0 a1 σ Q) h
def block_cursor_text.mark : Mark := ⟨fun t => Nat.beq t 10, fun t => false, fun t => false, fun t => false, fun t => false⟩
def block_cursor_text.ann : Ann := ⟨fun n => [], fun n => bif Nat.beq n 4 then some [0, 3, 4] else none, fun n => none⟩
/-- '(*marlstone/block.cursor).text' -/
def block_cursor_text.sh (a0 : AV) (σ : Store) (Q : AEnd → Store → Prop) : Prop :=
  Do (aNil a0) fun t8 =>
  Do (loadA false 1 t8 σ) fun t9 =>
  Do (aPureC Go.Proofs.Try.prog 77 [t9]) fun t10 =>
  Do (aExt t10 0) fun t11 =>
  Do (aExt t10 1) fun t12 =>
  Do (aExt t10 2) fun t13 =>
  aJoin (fun j =>
    Do (aUn Go.Proofs.Try.prog .not t13) fun t15 =>
    aCond t15
      (Do (aLit [] [] []) fun t16 =>
      aPanic (.ifc 124 t16) σ (fun e σ_2 => Q (.pan e) σ_2))
      (j [a0, t11, t12] σ)) fun vs σ =>
  At vs 0 fun s0 => At vs 1 fun s3 => At vs 2 fun s4 => Do (aNil s0) fun t20 =>
  Do (loadA false 1 t20 σ) fun t21 =>
  Do (aSlice .slice 1 t21 (some s4) none none) fun t23 =>
  Do (aNil s0) fun t24 =>
  storeA 1 t24 t23 σ fun u_1 σ_3 =>
  Q (.ret s3) σ_3
theorem block_cursor_text.eq (a0 : AV) (σ : Store) (Q : AEnd → Store → Prop) : vc (semOf Go.Proofs.Try.prog block_cursor_text.mark) Go.Proofs.Try.f92.ntmps block_cursor_text.ann (bodyOf Go.Proofs.Try.f92) (endK [.tmp 2] Q) (argFr [a0]) σ = block_cursor_text.sh a0 σ Q := by kernel_rfl
theorem block_cursor_text.go {a0 : AV} {σ : Store} {Q : AEnd → Store → Prop} (h : block_cursor_text.sh a0 σ Q) : ACalls Go.Proofs.Try.prog 92 [a0] σ Q :=
  acalls_of_eq [.tmp 2] Go.Proofs.Try.func92 (by kernel_rfl) (by kernel_rfl) (by kernel_rfl) (by kernel_rfl) (block_cursor_text.eq a0 σ Q) h
def block_cursor_flag.mark : Mark := ⟨fun t => false, fun t => false, fun t => false, fun t => Nat.beq t 14 || Nat.beq t 23, fun t => false⟩
def block_cursor_flag.ann : Ann := ⟨fun n => [], fun n => bif Nat.beq n 3 then some [0] else none, fun n => none⟩
/-- '(*marlstone/block.cursor).flag' -/
def block_cursor_flag.sh (a0 : AV) (σ : Store) (Q : AEnd → Store → Prop) : Prop :=
  aJoin (fun j =>
    Do (aNil a0) fun t5 =>
    Do (loadA false 1 t5 σ) fun t6 =>
    Do (aBuiltin Go.Proofs.Try.prog .len #[122] [t6]) fun t7 =>
    Do (aBin Go.Proofs.Try.prog .eql 3 t7 (.val (.int .i64 0))) fun t8 =>
    Do (aGuard t8 false (aIs a0)) fun t10 =>
    Do (aGuard t8 false (aNil t10)) fun t11 =>
    Do (aGuard t8 false (loadA false 1 t11 σ)) fun t12 =>
    Do (aGuard t8 false (aIndexAddr .slice 1 t12 (.val (.int .i64 0)))) fun t13 =>
    Do (aGuard t8 false (loadF false 1 t13)) fun t14 =>
    Do (aGuard t8 false (aBin Go.Proofs.Try.prog .gtr 5 t14 (W8 1))) fun t15 =>
    Do (aPick t8 (.val (.bool true)) t15) fun t16 =>
    aCond t16
      (Do (aLit [] [] []) fun t17 =>
      aPanic (.ifc 124 t17) σ (fun e σ_2 => Q (.pan e) σ_2))
      (j [a0] σ)) fun vs σ =>
  At vs 0 fun s0 => Do (aNil s0) fun t20 =>
  Do (loadA false 1 t20 σ) fun t21 =>
  Do (aIndexAddr .slice 1 t21 (.val (.int .i64 0))) fun t22 =>
  Do (loadF false 1 t22) fun t23 =>
  Do (aBin Go.Proofs.Try.prog .eql 5 t23 (W8 1)) fun t24 =>
  Do (aNil s0) fun t27 =>
  Do (loadA false 1 t27 σ) fun t28 =>
  Do (aSlice .slice 1 t28 (some (.val (.int .i64 1))) none none) fun t29 =>
  Do (aNil s0) fun t30 =>
  storeA 1 t30 t29 σ fun u_1 σ_3 =>
  Q (.ret t24) σ_3
theorem block_cursor_flag.eq (a0 : AV) (σ : Store) (Q : AEnd → Store → Prop) : vc (semOf Go.Proofs.Try.prog block_cursor_flag.mark) Go.Proofs.Try.f93.ntmps block_cursor_flag.ann (bodyOf Go.Proofs.Try.f93) (endK [.tmp 2] Q) (argFr [a0]) σ = block_cursor_flag.sh a0 σ Q := by kernel_rfl
theorem block_cursor_flag.go {a0 : AV} {σ : Store} {Q : AEnd → Store → Prop} (h : block_cursor_flag.sh a0 σ Q) : ACalls Go.Proofs.Try.prog 93 [a0] σ Q :=
  acalls_of_eq [.tmp 2] Go.Proofs.Try.func93 (by kernel_rfl) (by kernel_rfl) (by kernel_rfl) (by kernel_rfl) (block_cursor_flag.eq a0 σ Q) h
def block_entries_1.mark : Mark := ⟨fun t => false, fun t => false, fun t => false, fun t => false, fun t => false⟩
def block_entries_1.ann : Ann := ⟨fun n => [], fun n => none, fun n => none⟩
/-- 'marlstone/block.entries$1' -/
def block_entries_1.sh (a0 a1 u : AV) (σ : Store) (Q : Store → Prop) : Prop :=
  Do (aBin Go.Proofs.Try.prog .eql 20 u (.val .nilIface)) fun t7 =>
  aCond t7
    (Q σ)
    (Do (aAssert Go.Proofs.Try.prog 124 true u) fun t8 =>
    Do (aExt t8 1) fun t9 =>
    Do (aExt t8 0) fun t10 =>
    aCond t9
      (aNewVar 124 [] σ fun t3 σ =>
      storeA 0 t3 t10 σ fun u σ_1 =>
      storeA 1 a0 (.val (.slice none 0 0)) σ_1 fun u_1 σ_2 =>
      storeA 1 a1 (.val (.bool false)) σ_2 fun u_2 σ_3 =>
      Q σ_3)
      (aPanic u σ (fun e σ_5 => False)))
theorem block_entries_1.eq (a0 a1 u : AV) (σ : Store) (Q : Store → Prop) : vc (semOf Go.Proofs.Try.prog block_entries_1.mark) Go.Proofs.Try.f90.ntmps block_entries_1.ann (c2 (bodyOf Go.Proofs.Try.f90)) (endR Q) (fun t => bif Nat.beq t 5 then u else argFr [a0, a1] t) σ = block_entries_1.sh a0 a1 u σ Q := by kernel_rfl
theorem block_entries_1.r0 : ∃ id ty pos after, c1 (bodyOf Go.Proofs.Try.f90) = recoverR 5 id ty pos after := ⟨_, _, _, _, rfl⟩
theorem block_entries_1.go {v0 v1 : Value} {m : Option AV} {σ : Store} {Q : Store → Prop} (h : block_entries_1.sh (.val v0) (.val v1) (recU m) σ Q) : DCalls Go.Proofs.Try.prog 90 [v0, v1] m σ Q :=
  dcalls_rec 5 Go.Proofs.Try.func90 (by kernel_rfl) (by kernel_rfl) (by kernel_rfl) (by kernel_rfl) block_entries_1.r0 ((block_entries_1.eq (.val v0) (.val v1) (recU m) σ Q).mpr h)
theorem cur_number (b : Nat) (l : List UInt8) (m : SM) (w : UInt64) (hl : l.length ≤ 1000000000000000) (hw : w.toNat ≤ 9223372036854775807) : ACalls Go.Proofs.Try.prog 91 [ptrAt b 0, W64 w] [.var b 122 [.lst 1 (l.map byt) m]]
    fun x σ' => ((getO l = true ∧ getV l ≤ w.toNat) ∧ x = .ret (I .i64 (getV l : Nat)) ∧ σ' = [.var b 122 [.lst 1 ((l.drop (getN l)).map byt) .ro]]) ∨ (¬ (getO l = true ∧ getV l ≤ w.toNat) ∧ x = .pan badV ∧ σ' = [.var b 122 [.lst 1 (l.map byt) m]]) := by
  refine block_cursor_number.go ?_
  unfold block_cursor_number.sh
  obtain ⟨b1, b2, b3, b4⟩ := get_bound (s := l)
  have e := u64_len b1
  repeat' (first | with_reducible apply Stp.go | with_reducible refine imp fun _ => ?_ | (with_reducible refine hyp ?_ ?_; first | assumption | exact leftT_mem (by assumption)) | (with_reducible refine need ?_ ?_; first | trivial | omega | exact ⟨by assumption, by omega⟩ | (simp only [List.length_append, List.length_cons, List.length_nil, List.length_map, List.length_take, List.length_drop, List.length_replicate, List.length_set]; omega)) | (with_reducible refine fact ?_ ?_; first | trivial | exact ⟨rfl, rfl⟩ | kernel_rfl) | with_reducible refine choT (by assumption) ?_ | with_reducible refine choF (by assumption) ?_ | with_reducible refine choF' (by assumption) ?_ | (with_reducible refine altT ?_ ?_; first | omega | (simp only [List.length_append, List.length_cons, List.length_nil, List.length_map, List.length_take, List.length_drop, List.length_replicate, List.length_set]; omega)) | with_reducible refine altF ?_ | with_reducible refine all fun _ => ?_ | with_reducible refine both ?_ ?_ | (with_reducible refine choT ?_ ?_; omega) | (with_reducible refine choF ?_ ?_; omega) | with_reducible refine cho (fun _ => ?_) (fun _ => ?_))
  refine joinI (β := Unit) (fun _ => getO l = true ∧ getV l ≤ w.toNat) (fun _ => [ptrAt b 0, W64 (UInt64.ofNat (getV l)), I .i64 (getN l : Nat)]) (fun _ => [.var b 122 [.lst 1 (l.map byt) m]]) ?_ ?_
  · repeat' (first | with_reducible apply Stp.go | with_reducible refine imp fun _ => ?_ | (with_reducible refine hyp ?_ ?_; first | assumption | exact leftT_mem (by assumption)) | (with_reducible refine need ?_ ?_; first | trivial | omega | exact ⟨by assumption, by omega⟩ | (simp only [List.length_append, List.length_cons, List.length_nil, List.length_map, List.length_take, List.length_drop, List.length_replicate, List.length_set]; omega)) | (with_reducible refine fact ?_ ?_; first | trivial | exact ⟨rfl, rfl⟩ | kernel_rfl) | with_reducible refine choT (by assumption) ?_ | with_reducible refine choF (by assumption) ?_ | with_reducible refine choF' (by assumption) ?_ | (with_reducible refine altT ?_ ?_; first | omega | (simp only [List.length_append, List.length_cons, List.length_nil, List.length_map, List.length_take, List.length_drop, List.length_replicate, List.length_set]; omega)) | with_reducible refine altF ?_ | with_reducible refine all fun _ => ?_ | with_reducible refine both ?_ ?_ | (with_reducible refine choT ?_ ?_; omega) | (with_reducible refine choF ?_ ?_; omega) | with_reducible refine cho (fun _ => ?_) (fun _ => ?_))
    · rename_i h1 h2
      exact .inr ⟨fun h => by have := h.2; omega, rfl, rfl⟩
    · rename_i h1 h2
      exact meet () ⟨h1, by omega⟩ (Sub.refl _ _)
    · rename_i h1
      exact .inr ⟨fun h => h1 h.1, rfl, rfl⟩
  · rintro _ ⟨h1, h2⟩
    repeat' (first | with_reducible apply Stp.go | with_reducible refine imp fun _ => ?_ | (with_reducible refine hyp ?_ ?_; first | assumption | exact leftT_mem (by assumption)) | (with_reducible refine need ?_ ?_; first | trivial | omega | exact ⟨by assumption, by omega⟩ | (simp only [List.length_append, List.length_cons, List.length_nil, List.length_map, List.length_take, List.length_drop, List.length_replicate, List.length_set]; omega)) | (with_reducible refine fact ?_ ?_; first | trivial | exact ⟨rfl, rfl⟩ | kernel_rfl) | with_reducible refine choT (by assumption) ?_ | with_reducible refine choF (by assumption) ?_ | with_reducible refine choF' (by assumption) ?_ | (with_reducible refine altT ?_ ?_; first | omega | (simp only [List.length_append, List.length_cons, List.length_nil, List.length_map, List.length_take, List.length_drop, List.length_replicate, List.length_set]; omega)) | with_reducible refine altF ?_ | with_reducible refine all fun _ => ?_ | with_reducible refine both ?_ ?_ | (with_reducible refine choT ?_ ?_; omega) | (with_reducible refine choF ?_ ?_; omega) | with_reducible refine cho (fun _ => ?_) (fun _ => ?_))
    refine .inl ⟨⟨h1, h2⟩, ?_, rfl⟩
    rw [Nat.mod_eq_of_lt b1]
instance {b : Nat} {l : List UInt8} {m : SM} {w : UInt64} {σ rest : Store} {put : Ent → Store} [hv : VarAt b σ 122 [.lst 1 (l.map byt) m] put rest] : QC Go.Proofs.Try.prog 91 [ptrAt b 0, W64 w] σ (l.length ≤ 1000000000000000 ∧ w.toNat ≤ 9223372036854775807) (getO l = true ∧ getV l ≤ w.toNat)
    (I .i64 (getV l : Nat)) (put (.var b 122 [.lst 1 ((l.drop (getN l)).map byt) .ro])) badV (put (.var b 122 [.lst 1 (l.map byt) m])) := ⟨fun h => ACalls.atQ (cur_number b l m w h.1 h.2)⟩
theorem cur_text (b : Nat) (l : List UInt8) (m : SM) (hl : l.length ≤ 1000000000000000) : ACalls Go.Proofs.Try.prog 92 [ptrAt b 0] [.var b 122 [.lst 1 (l.map byt) m]]
    fun x σ' => (textO l = true ∧ x = .ret (S (textV l)) ∧ σ' = [.var b 122 [.lst 1 ((l.drop (textN l)).map byt) .ro]]) ∨ (¬ textO l = true ∧ x = .pan badV ∧ σ' = [.var b 122 [.lst 1 (l.map byt) m]]) := by
  refine block_cursor_text.go ?_
  unfold block_cursor_text.sh
  obtain ⟨b1, b2, b3⟩ := text_bound (s := l)
  repeat' (first | with_reducible apply Stp.go | with_reducible refine imp fun _ => ?_ | (with_reducible refine hyp ?_ ?_; first | assumption | exact leftT_mem (by assumption)) | (with_reducible refine need ?_ ?_; first | trivial | omega | exact ⟨by assumption, by omega⟩ | (simp only [List.length_append, List.length_cons, List.length_nil, List.length_map, List.length_take, List.length_drop, List.length_replicate, List.length_set]; omega)) | (with_reducible refine fact ?_ ?_; first | trivial | exact ⟨rfl, rfl⟩ | kernel_rfl) | with_reducible refine choT (by assumption) ?_ | with_reducible refine choF (by assumption) ?_ | with_reducible refine choF' (by assumption) ?_ | (with_reducible refine altT ?_ ?_; first | omega | (simp only [List.length_append, List.length_cons, List.length_nil, List.length_map, List.length_take, List.length_drop, List.length_replicate, List.length_set]; omega)) | with_reducible refine altF ?_ | with_reducible refine all fun _ => ?_ | with_reducible refine both ?_ ?_ | (with_reducible refine choT ?_ ?_; omega) | (with_reducible refine choF ?_ ?_; omega) | with_reducible refine cho (fun _ => ?_) (fun _ => ?_))
  refine joinI (β := Unit) (fun _ => textO l = true) (fun _ => [ptrAt b 0, S (textV l), I .i64 (textN l : Nat)]) (fun _ => [.var b 122 [.lst 1 (l.map byt) m]]) ?_ ?_
  · repeat' (first | with_reducible apply Stp.go | with_reducible refine imp fun _ => ?_ | (with_reducible refine hyp ?_ ?_; first | assumption | exact leftT_mem (by assumption)) | (with_reducible refine need ?_ ?_; first | trivial | omega | exact ⟨by assumption, by omega⟩ | (simp only [List.length_append, List.length_cons, List.length_nil, List.length_map, List.length_take, List.length_drop, List.length_replicate, List.length_set]; omega)) | (with_reducible refine fact ?_ ?_; first | trivial | exact ⟨rfl, rfl⟩ | kernel_rfl) | with_reducible refine choT (by assumption) ?_ | with_reducible refine choF (by assumption) ?_ | with_reducible refine choF' (by assumption) ?_ | (with_reducible refine altT ?_ ?_; first | omega | (simp only [List.length_append, List.length_cons, List.length_nil, List.length_map, List.length_take, List.length_drop, List.length_replicate, List.length_set]; omega)) | with_reducible refine altF ?_ | with_reducible refine all fun _ => ?_ | with_reducible refine both ?_ ?_ | (with_reducible refine choT ?_ ?_; omega) | (with_reducible refine choF ?_ ?_; omega) | with_reducible refine cho (fun _ => ?_) (fun _ => ?_))
    · rename_i h1
      exact meet () h1 (Sub.refl _ _)
    · rename_i h1
      exact .inr ⟨h1, rfl, rfl⟩
  · intro _ h1
    repeat' (first | with_reducible apply Stp.go | with_reducible refine imp fun _ => ?_ | (with_reducible refine hyp ?_ ?_; first | assumption | exact leftT_mem (by assumption)) | (with_reducible refine need ?_ ?_; first | trivial | omega | exact ⟨by assumption, by omega⟩ | (simp only [List.length_append, List.length_cons, List.length_nil, List.length_map, List.length_take, List.length_drop, List.length_replicate, List.length_set]; omega)) | (with_reducible refine fact ?_ ?_; first | trivial | exact ⟨rfl, rfl⟩ | kernel_rfl) | with_reducible refine choT (by assumption) ?_ | with_reducible refine choF (by assumption) ?_ | with_reducible refine choF' (by assumption) ?_ | (with_reducible refine altT ?_ ?_; first | omega | (simp only [List.length_append, List.length_cons, List.length_nil, List.length_map, List.length_take, List.length_drop, List.length_replicate, List.length_set]; omega)) | with_reducible refine altF ?_ | with_reducible refine all fun _ => ?_ | with_reducible refine both ?_ ?_ | (with_reducible refine choT ?_ ?_; omega) | (with_reducible refine choF ?_ ?_; omega) | with_reducible refine cho (fun _ => ?_) (fun _ => ?_))
    exact .inl ⟨h1, rfl, rfl⟩
instance {b : Nat} {l : List UInt8} {m : SM} {σ rest : Store} {put : Ent → Store} [hv : VarAt b σ 122 [.lst 1 (l.map byt) m] put rest] : QC Go.Proofs.Try.prog 92 [ptrAt b 0] σ (l.length ≤ 1000000000000000) (textO l = true)
    (S (textV l)) (put (.var b 122 [.lst 1 ((l.drop (textN l)).map byt) .ro])) badV (put (.var b 122 [.lst 1 (l.map byt) m])) := ⟨fun h => ACalls.atQ (cur_text b l m h)⟩
theorem cur_flag (b : Nat) (l : List UInt8) (m : SM) (hl : l.length ≤ 1000000000000000) : ACalls Go.Proofs.Try.prog 93 [ptrAt b 0] [.var b 122 [.lst 1 (l.map byt) m]]
    fun x σ' => ((0 < l.length ∧ (l.getD 0 default).toNat ≤ 1) ∧ x = .ret (B (decide ((l.getD 0 default).toNat = 1))) ∧ σ' = [.var b 122 [.lst 1 ((l.drop 1).map byt) .ro]]) ∨ (¬ (0 < l.length ∧ (l.getD 0 default).toNat ≤ 1) ∧ x = .pan badV ∧ σ' = [.var b 122 [.lst 1 (l.map byt) m]]) := by
  refine block_cursor_flag.go ?_
  unfold block_cursor_flag.sh
  refine joinI (β := Unit) (fun _ => 0 < l.length ∧ (l.getD 0 default).toNat ≤ 1) (fun _ => [ptrAt b 0]) (fun _ => [.var b 122 [.lst 1 (l.map byt) m]]) ?_ ?_
  · repeat' (first | with_reducible apply Stp.go | with_reducible refine imp fun _ => ?_ | (with_reducible refine hyp ?_ ?_; first | assumption | exact leftT_mem (by assumption)) | (with_reducible refine need ?_ ?_; first | trivial | omega | exact ⟨by assumption, by omega⟩ | (simp only [List.length_append, List.length_cons, List.length_nil, List.length_map, List.length_take, List.length_drop, List.length_replicate, List.length_set]; omega)) | (with_reducible refine fact ?_ ?_; first | trivial | exact ⟨rfl, rfl⟩ | kernel_rfl) | with_reducible refine choT (by assumption) ?_ | with_reducible refine choF (by assumption) ?_ | with_reducible refine choF' (by assumption) ?_ | (with_reducible refine altT ?_ ?_; first | omega | (simp only [List.length_append, List.length_cons, List.length_nil, List.length_map, List.length_take, List.length_drop, List.length_replicate, List.length_set]; omega)) | with_reducible refine altF ?_ | with_reducible refine all fun _ => ?_ | with_reducible refine both ?_ ?_ | (with_reducible refine choT ?_ ?_; omega) | (with_reducible refine choF ?_ ?_; omega) | with_reducible refine cho (fun _ => ?_) (fun _ => ?_))
    · rename_i h1
      exact .inr ⟨fun h => by omega, rfl, rfl⟩
    · rename_i h0 h1
      exact .inr ⟨fun h => by omega, rfl, rfl⟩
    · rename_i h0 h1
      exact meet () ⟨by omega, by omega⟩ (Sub.refl _ _)
  · intro _ h1
    repeat' (first | with_reducible apply Stp.go | with_reducible refine imp fun _ => ?_ | (with_reducible refine hyp ?_ ?_; first | assumption | exact leftT_mem (by assumption)) | (with_reducible refine need ?_ ?_; first | trivial | omega | exact ⟨by assumption, by omega⟩ | (simp only [List.length_append, List.length_cons, List.length_nil, List.length_map, List.length_take, List.length_drop, List.length_replicate, List.length_set]; omega)) | (with_reducible refine fact ?_ ?_; first | trivial | exact ⟨rfl, rfl⟩ | kernel_rfl) | with_reducible refine choT (by assumption) ?_ | with_reducible refine choF (by assumption) ?_ | with_reducible refine choF' (by assumption) ?_ | (with_reducible refine altT ?_ ?_; first | omega | (simp only [List.length_append, List.length_cons, List.length_nil, List.length_map, List.length_take, List.length_drop, List.length_replicate, List.length_set]; omega)) | with_reducible refine altF ?_ | with_reducible refine all fun _ => ?_ | with_reducible refine both ?_ ?_ | (with_reducible refine choT ?_ ?_; omega) | (with_reducible refine choF ?_ ?_; omega) | with_reducible refine cho (fun _ => ?_) (fun _ => ?_))
    exact .inl ⟨h1, rfl, rfl⟩
instance {b : Nat} {l : List UInt8} {m : SM} {σ rest : Store} {put : Ent → Store} [hv : VarAt b σ 122 [.lst 1 (l.map byt) m] put rest] : QC Go.Proofs.Try.prog 93 [ptrAt b 0] σ (l.length ≤ 1000000000000000) (0 < l.length ∧ (l.getD 0 default).toNat ≤ 1)
    (B (decide ((l.getD 0 default).toNat = 1))) (put (.var b 122 [.lst 1 ((l.drop 1).map byt) .ro])) badV (put (.var b 122 [.lst 1 (l.map byt) m])) := ⟨fun h => ACalls.atQ (cur_flag b l m h)⟩
instance dcNone {v0 v1 : Value} {σ : Store} {Q : Store → Prop} : Stp (DCalls Go.Proofs.Try.prog 90 [v0, v1] none σ Q) (Q σ) := ⟨fun h => by
  refine block_entries_1.go ?_
  unfold block_entries_1.sh
  unfold recU
  repeat' (first | with_reducible apply Stp.go | with_reducible refine imp fun _ => ?_ | (with_reducible refine hyp ?_ ?_; first | assumption | exact leftT_mem (by assumption)) | (with_reducible refine need ?_ ?_; first | trivial | omega | exact ⟨by assumption, by omega⟩ | (simp only [List.length_append, List.length_cons, List.length_nil, List.length_map, List.length_take, List.length_drop, List.length_replicate, List.length_set]; omega)) | (with_reducible refine fact ?_ ?_; first | trivial | exact ⟨rfl, rfl⟩ | kernel_rfl) | with_reducible refine choT (by assumption) ?_ | with_reducible refine choF (by assumption) ?_ | with_reducible refine choF' (by assumption) ?_ | (with_reducible refine altT ?_ ?_; first | omega | (simp only [List.length_append, List.length_cons, List.length_nil, List.length_map, List.length_take, List.length_drop, List.length_replicate, List.length_set]; omega)) | with_reducible refine altF ?_ | with_reducible refine all fun _ => ?_ | with_reducible refine both ?_ ?_ | (with_reducible refine choT ?_ ?_; omega) | (with_reducible refine choF ?_ ?_; omega) | with_reducible refine cho (fun _ => ?_) (fun _ => ?_))
  exact h⟩
instance dcBad {b1 b2 : Nat} {t1 t2 : TypeId} {x1 x2 : AV} {σ rest1 rest2 : Store} {put1 put2 : Ent → Store} {Q : Store → Prop} [h1 : VarAt b1 σ t1 [x1] put1 rest1] [h2 : VarAt b2 (put1 (.var b1 t1 [.val (.slice none 0 0)])) t2 [x2] put2 rest2] :
    Stp (DCalls Go.Proofs.Try.prog 90 [.pointer (some ⟨b1, 0, none⟩), .pointer (some ⟨b2, 0, none⟩)] (some badV) σ Q) (All fun b => Q (.var b 124 [] :: put2 (.var b2 t2 [.val (.bool false)]))) := ⟨fun h => by
  refine block_entries_1.go ?_
  unfold block_entries_1.sh
  unfold recU
  repeat' (first | with_reducible apply Stp.go | with_reducible refine imp fun _ => ?_ | (with_reducible refine hyp ?_ ?_; first | assumption | exact leftT_mem (by assumption)) | (with_reducible refine need ?_ ?_; first | trivial | omega | exact ⟨by assumption, by omega⟩ | (simp only [List.length_append, List.length_cons, List.length_nil, List.length_map, List.length_take, List.length_drop, List.length_replicate, List.length_set]; omega)) | (with_reducible refine fact ?_ ?_; first | trivial | exact ⟨rfl, rfl⟩ | kernel_rfl) | with_reducible refine choT (by assumption) ?_ | with_reducible refine choF (by assumption) ?_ | with_reducible refine choF' (by assumption) ?_ | (with_reducible refine altT ?_ ?_; first | omega | (simp only [List.length_append, List.length_cons, List.length_nil, List.length_map, List.length_take, List.length_drop, List.length_replicate, List.length_set]; omega)) | with_reducible refine altF ?_ | with_reducible refine all fun _ => ?_ | with_reducible refine both ?_ ?_ | (with_reducible refine choT ?_ ?_; omega) | (with_reducible refine choF ?_ ?_; omega) | with_reducible refine cho (fun _ => ?_) (fun _ => ?_))
  rename_i b
  exact h b⟩
end Go.Ab

/- Reading a block: all its entries. -/
set_option linter.unusedVariables false
set_option linter.unusedSimpArgs false
namespace Go.Ab
def block_entries.mark : Mark := ⟨fun t => false, fun t => false, fun t => false, fun t => false, fun t => false⟩
def block_entries.ann : Ann := ⟨fun n => bif Nat.beq n 3 then [1, 2, 3, 4] else [], fun n => bif Nat.beq n 9 then some [1, 2, 3, 4, 6] else none, fun n => none⟩
/-- 'marlstone/block.entries' -/
def block_entries.sh (a0 : AV) (σ : Store) (Q : AEnd → Store → Prop) : Prop :=
  aNewVar 122 (a0 : AV).cells σ fun t1 σ =>
  aNewVar 22 [.val (.slice none 0 0)] σ fun t2 σ_1 =>
  aNewVar 4 [.val (.bool false)] σ_1 fun t3 σ_2 =>
  capU [t2, t3] fun cs =>
  aLoop (fun go vs σ_3 =>
    At vs 0 fun s1 => At vs 1 fun s2 => At vs 2 fun s3 => At vs 3 fun s4 => Do (loadA false 1 s1 σ_3) fun t8 =>
    Do (aBuiltin Go.Proofs.Try.prog .len #[122] [t8]) fun t9 =>
    Do (aBin Go.Proofs.Try.prog .gtr 3 t9 (.val (.int .i64 0))) fun t10 =>
    Do (aGuard t10 true (loadA false 1 s2 σ_3)) fun t12 =>
    Do (aGuard t10 true (aBuiltin Go.Proofs.Try.prog .len #[22] [t12])) fun t13 =>
    Do (aGuard t10 true (aBin Go.Proofs.Try.prog .leq 3 t13 (.val (.int .i64 64)))) fun t14 =>
    Do (aPick t10 t14 (.val (.bool false))) fun t15 =>
    aCond t15
      (Do (aBuiltin Go.Proofs.Try.prog .len #[9] [s4]) fun t17 =>
    Do (fun x => aConvN 3 71 t17 x Go.Proofs.Try.prog) fun t18 =>
    aCall Go.Proofs.Try.prog 91 [s1, t18] σ_3 (fun t19 σ_4 =>
    Do (aSlice .string 1 s4 none (some t19) none) fun t22 =>
    aCall Go.Proofs.Try.prog 92 [s1] σ_4 (fun t23 σ_5 =>
    Do (aBin Go.Proofs.Try.prog .add 9 t22 t23) fun t24 =>
    aCall Go.Proofs.Try.prog 93 [s1] σ_5 (fun t26 σ_6 =>
    aCall Go.Proofs.Try.prog 91 [s1, (W64 1099511627776)] σ_6 (fun t27 σ_7 =>
    Do (aLit [.val (.string ⟨#[]⟩), .val (.string ⟨#[]⟩), .val (.bool false), .val (.int .i64 0)] [(0, 1), (1, 1), (2, 1), (3, 1)] [(0, t24), (2, t26), (3, t27)]) fun t28 =>
    aNewVar 52 [.val (.string ⟨#[]⟩), .val (.string ⟨#[]⟩), .val (.bool false), .val (.int .i64 0)] σ_7 fun t6 σ_8 =>
    storeA 4 t6 t28 σ_8 fun u σ_9 =>
    aJoin (fun j =>
      Do (aFieldAddr 2 1 t6) fun t29 =>
      Do (loadA false 1 t29 σ_9) fun t30 =>
      Do (aUn Go.Proofs.Try.prog .not t30) fun t31 =>
      aCond t31
        (aCall Go.Proofs.Try.prog 92 [s1] σ_9 (fun t32 σ_11 =>
        Do (aFieldAddr 1 1 t6) fun t33 =>
        storeA 1 t33 t32 σ_11 fun u_1 σ_12 =>
        j [s1, s2, s3, t24, t6] σ_12) (fun e σ_13 => DCalls Go.Proofs.Try.prog 90 cs (some e) σ_13 fun σ_14 => Do (loadA false 1 s2 σ_14) fun r2 => Do (loadA false 1 s3 σ_14) fun r3 => Q (.ret (.tuple [r2, r3])) σ_14))
        (j [s1, s2, s3, t24, t6] σ_9)) fun vs_1 σ_10 =>
    At vs_1 0 fun s1_1 => At vs_1 1 fun s2_1 => At vs_1 2 fun s3_1 => At vs_1 3 fun s4_1 => At vs_1 4 fun s6 => Do (loadA false 1 s2_1 σ_10) fun t34 =>
    Do (loadA true 4 s6 σ_10) fun t35 =>
    Do (aSlLit (mkE [.val (.string ⟨#[]⟩), .val (.string ⟨#[]⟩), .val (.bool false), .val (.int .i64 0)]) 4 1 [(0, t35)]) fun t36 =>
    aAppend 52 4 48 t34 t36 σ_10 (subK fun t37 σ_15 =>
    storeA 1 s2_1 t37 σ_15 fun u_2 σ_16 =>
    go [s1_1, s2_1, s3_1, s4_1] σ_16)) (fun e_1 σ_17 => DCalls Go.Proofs.Try.prog 90 cs (some e_1) σ_17 fun σ_18 => Do (loadA false 1 s2 σ_18) fun r2_1 => Do (loadA false 1 s3 σ_18) fun r3_1 => Q (.ret (.tuple [r2_1, r3_1])) σ_18)) (fun e_2 σ_19 => DCalls Go.Proofs.Try.prog 90 cs (some e_2) σ_19 fun σ_20 => Do (loadA false 1 s2 σ_20) fun r2_2 => Do (loadA false 1 s3 σ_20) fun r3_2 => Q (.ret (.tuple [r2_2, r3_2])) σ_20)) (fun e_3 σ_21 => DCalls Go.Proofs.Try.prog 90 cs (some e_3) σ_21 fun σ_22 => Do (loadA false 1 s2 σ_22) fun r2_3 => Do (loadA false 1 s3 σ_22) fun r3_3 => Q (.ret (.tuple [r2_3, r3_3])) σ_22)) (fun e_4 σ_23 => DCalls Go.Proofs.Try.prog 90 cs (some e_4) σ_23 fun σ_24 => Do (loadA false 1 s2 σ_24) fun r2_4 => Do (loadA false 1 s3 σ_24) fun r3_4 => Q (.ret (.tuple [r2_4, r3_4])) σ_24))
      (Do (loadA false 1 s2 σ_3) fun t38 =>
  storeA 1 s2 t38 σ_3 fun u_3 σ_25 =>
  storeA 1 s3 (.val (.bool true)) σ_25 fun u_4 σ_26 =>
  DCalls Go.Proofs.Try.prog 90 cs none σ_26 fun σ_27 => Do (loadA false 1 s2 σ_27) fun r2_5 => Do (loadA false 1 s3 σ_27) fun r3_5 => Q (.ret (.tuple [r2_5, r3_5])) σ_27))
    [t1, t2, t3, (.val (.string ⟨#[]⟩))] σ_2
theorem block_entries.eq (a0 : AV) (σ : Store) (Q : AEnd → Store → Prop) : vc (semOf Go.Proofs.Try.prog block_entries.mark) Go.Proofs.Try.f79.ntmps block_entries.ann (c1 (bodyOf Go.Proofs.Try.f79)) (midD (semOf Go.Proofs.Try.prog block_entries.mark) Go.Proofs.Try.f79.ntmps block_entries.ann (c2 (c2 (bodyOf Go.Proofs.Try.f79))) 90 [2, 3] 7 [.cell 2 false 1, .cell 3 false 1] Q) (argFr [a0]) σ = block_entries.sh a0 σ Q := by kernel_rfl
theorem block_entries.r1 : ∃ id ty pos after ty2 pos2 after2, c1 (c2 (bodyOf Go.Proofs.Try.f79)) = deferR 90 7 [2, 3] id ty pos after ty2 pos2 after2 := ⟨_, _, _, _, _, _, _, rfl⟩
theorem block_entries.go {a0 : AV} {σ : Store} {Q : AEnd → Store → Prop} (h : block_entries.sh a0 σ Q) : ACalls Go.Proofs.Try.prog 79 [a0] σ Q :=
  acalls_defer [.cell 2 false 1, .cell 3 false 1] [2, 3] 7 Go.Proofs.Try.func79 (by kernel_rfl) (by kernel_rfl) (by kernel_rfl) (by kernel_rfl) (by kernel_rfl) block_entries.r1 ⟨_, _, Go.Proofs.Try.func90, rfl, by kernel_rfl⟩ ((block_entries.eq a0 σ Q).mpr h)
def ref04_entries.mark : Mark := ⟨fun t => Nat.beq t 29 || Nat.beq t 46 || Nat.beq t 82 || Nat.beq t 109, fun t => false, fun t => false, fun t => false, fun t => false⟩
def ref04_entries.ann : Ann := ⟨fun n => bif Nat.beq n 3 then [0, 4, 5] else [], fun n => bif Nat.beq n 23 then some [0, 4, 16] else none, fun n => none⟩
/-- 'marlstone/marlstoneref04.entries' -/
def ref04_entries.sh (a0 : AV) (σ : Store) (Q : AEnd → Store → Prop) : Prop :=
  aLoop (fun go vs σ =>
    At vs 0 fun s0 => At vs 1 fun s4 => At vs 2 fun s5 => Do (aBin Go.Proofs.Try.prog .neq 9 s0 (.val (.string ⟨#[]⟩))) fun t21 =>
    Do (aGuard t21 true (aIs s4)) fun t23 =>
    Do (aGuard t21 true (aBuiltin Go.Proofs.Try.prog .len #[22] [t23])) fun t24 =>
    Do (aGuard t21 true (aBin Go.Proofs.Try.prog .leq 3 t24 (.val (.int .i64 64)))) fun t25 =>
    Do (aPick t21 t25 (.val (.bool false))) fun t26 =>
    aCond t26
      (Do (aPureC Go.Proofs.Try.prog 52 [s0]) fun t29 =>
    Do (aExt t29 0) fun t30 =>
    Do (aExt t29 1) fun t31 =>
    Do (aExt t29 2) fun t32 =>
    Do (aUn Go.Proofs.Try.prog .not t32) fun t34 =>
    Do (aGuard t34 false (aIs t30)) fun t36 =>
    Do (aGuard t34 false (aIs s5)) fun t37 =>
    Do (aGuard t34 false (aBuiltin Go.Proofs.Try.prog .len #[9] [t37])) fun t38 =>
    Do (aGuard t34 false (fun x => aConvN 3 71 t38 x Go.Proofs.Try.prog)) fun t39 =>
    Do (aGuard t34 false (aBin Go.Proofs.Try.prog .gtr 71 t36 t39)) fun t40 =>
    Do (aPick t34 (.val (.bool true)) t40) fun t41 =>
    aCond t41
      (Q (.ret (.tuple [(.val (.slice none 0 0)), (.val (.bool false))])) σ)
      (Do (aSlice .string 1 s0 (some t31) none none) fun t45 =>
    Do (aPureC Go.Proofs.Try.prog 51 [t45]) fun t46 =>
    Do (aExt t46 0) fun t47 =>
    Do (aExt t46 1) fun t48 =>
    Do (aExt t46 2) fun t49 =>
    Do (aUn Go.Proofs.Try.prog .not t49) fun t51 =>
    Do (aGuard t51 false (aIs t31)) fun t53 =>
    Do (aGuard t51 false (aIs t48)) fun t54 =>
    Do (aGuard t51 false (aBin Go.Proofs.Try.prog .add 3 t53 t54)) fun t55 =>
    Do (aGuard t51 false (aIs s0)) fun t56 =>
    Do (aGuard t51 false (aBuiltin Go.Proofs.Try.prog .len #[9] [t56])) fun t57 =>
    Do (aGuard t51 false (aBin Go.Proofs.Try.prog .geq 3 t55 t57)) fun t58 =>
    Do (aPick t51 (.val (.bool true)) t58) fun t59 =>
    Do (aGuard t59 false (aIs s0)) fun t61 =>
    Do (aGuard t59 false (aIs t31)) fun t62 =>
    Do (aGuard t59 false (aIs t48)) fun t63 =>
    Do (aGuard t59 false (aBin Go.Proofs.Try.prog .add 3 t62 t63)) fun t64 =>
    Do (aGuard t59 false (aIndex .string false 1 t61 t64)) fun t65 =>
    Do (aGuard t59 false (aBin Go.Proofs.Try.prog .gtr 5 t65 (W8 1))) fun t66 =>
    Do (aPick t59 (.val (.bool true)) t66) fun t67 =>
    aCond t67
      (Q (.ret (.tuple [(.val (.slice none 0 0)), (.val (.bool false))])) σ)
      (Do (aBin Go.Proofs.Try.prog .add 3 t31 t48) fun t71 =>
    Do (aIndex .string false 1 s0 t71) fun t72 =>
    Do (aBin Go.Proofs.Try.prog .eql 5 t72 (W8 1)) fun t73 =>
    Do (aBin Go.Proofs.Try.prog .add 3 t31 t48) fun t77 =>
    Do (aBin Go.Proofs.Try.prog .add 3 t77 (.val (.int .i64 1))) fun t78 =>
    Do (aSlice .string 1 s0 (some t78) none none) fun t79 =>
    Do (aPureC Go.Proofs.Try.prog 52 [t79]) fun t82 =>
    Do (aExt t82 0) fun t83 =>
    Do (aExt t82 1) fun t84 =>
    Do (aExt t82 2) fun t85 =>
    Do (aUn Go.Proofs.Try.prog .not t85) fun t87 =>
    Do (aGuard t87 false (aIs t83)) fun t89 =>
    Do (aGuard t87 false (aBin Go.Proofs.Try.prog .gtr 71 t89 (W64 1099511627776))) fun t90 =>
    Do (aPick t87 (.val (.bool true)) t90) fun t91 =>
    aCond t91
      (Q (.ret (.tuple [(.val (.slice none 0 0)), (.val (.bool false))])) σ)
      (Do (aSlice .string 1 t79 (some t84) none none) fun t94 =>
    Do (fun x => aConvN 71 3 t30 x Go.Proofs.Try.prog) fun t97 =>
    Do (aSlice .string 1 s5 none (some t97) none) fun t98 =>
    Do (aBin Go.Proofs.Try.prog .add 9 t98 t47) fun t100 =>
    Do (fun x => aConvN 71 3 t83 x Go.Proofs.Try.prog) fun t103 =>
    Do (aLit [.val (.string ⟨#[]⟩), .val (.string ⟨#[]⟩), .val (.bool false), .val (.int .i64 0)] [(0, 1), (1, 1), (2, 1), (3, 1)] [(0, t100), (2, t73), (3, t103)]) fun t104 =>
    aNewVar 52 [.val (.string ⟨#[]⟩), .val (.string ⟨#[]⟩), .val (.bool false), .val (.int .i64 0)] σ fun t16 σ_1 =>
    storeA 4 t16 t104 σ_1 fun u σ_2 =>
    aJoin (fun j =>
      Do (aUn Go.Proofs.Try.prog .not t73) fun t106 =>
      aCond t106
        (Do (aPureC Go.Proofs.Try.prog 51 [t94]) fun t109 =>
        Do (aExt t109 0) fun t110 =>
        Do (aExt t109 1) fun t111 =>
        Do (aExt t109 2) fun t112 =>
        Do (aUn Go.Proofs.Try.prog .not t112) fun t114 =>
        aCond t114
          (Q (.ret (.tuple [(.val (.slice none 0 0)), (.val (.bool false))])) σ_2)
          (Do (aFieldAddr 1 1 t16) fun t116 =>
        storeA 1 t116 t110 σ_2 fun u_1 σ_4 =>
        Do (aSlice .string 1 t94 (some t111) none none) fun t119 =>
        j [t119, s4, t16] σ_4))
        (j [t94, s4, t16] σ_2)) fun vs_1 σ_3 =>
    At vs_1 0 fun s0_1 => At vs_1 1 fun s4_1 => At vs_1 2 fun s16 => Do (loadA true 4 s16 σ_3) fun t121 =>
    Do (aSlLit (mkE [.val (.string ⟨#[]⟩), .val (.string ⟨#[]⟩), .val (.bool false), .val (.int .i64 0)]) 4 1 [(0, t121)]) fun t122 =>
    aAppend 52 4 48 s4_1 t122 σ_3 (subK fun t123 σ_5 =>
    Do (aFieldAddr 0 1 s16) fun t124 =>
    Do (loadA false 1 t124 σ_5) fun t125 =>
    go [s0_1, t123, t125] σ_5)))))
      (Q (.ret (.tuple [s4, (.val (.bool true))])) σ))
    [a0, (.val (.slice none 0 0)), (.val (.string ⟨#[]⟩))] σ
theorem ref04_entries.eq (a0 : AV) (σ : Store) (Q : AEnd → Store → Prop) : vc (semOf Go.Proofs.Try.prog ref04_entries.mark) Go.Proofs.Try.f80.ntmps ref04_entries.ann (bodyOf Go.Proofs.Try.f80) (endK [.tmp 2, .tmp 3] Q) (argFr [a0]) σ = ref04_entries.sh a0 σ Q := by kernel_rfl
theorem ref04_entries.go {a0 : AV} {σ : Store} {Q : AEnd → Store → Prop} (h : ref04_entries.sh a0 σ Q) : ACalls Go.Proofs.Try.prog 80 [a0] σ Q :=
  acalls_of_eq [.tmp 2, .tmp 3] Go.Proofs.Try.func80 (by kernel_rfl) (by kernel_rfl) (by kernel_rfl) (by kernel_rfl) (ref04_entries.eq a0 σ Q) h
theorem ents_fail {s0 : List UInt8} {σ : Store} (h : entsG s0 = none) : ∃ u u1 τ, AEnd.ret (.tuple [.val (.slice none 0 0), B false]) = .ret u ∧ Sub σ [u] τ [u1] ∧ AEnd.ret u1 = .ret (.tuple [.lst 4 ((entsV s0).map En.av) .ro, B (entsO s0)]) ∧ τ = [] :=
  ⟨_, _, _, rfl, Sub.tuple (retNil En.av (sz := 4) (by decide) (Sub.app_nil _)), by simp [entsV, entsO, h], rfl⟩
theorem ents_done {s0 : List UInt8} {σ rest : Store} {v : Value} {E : TypeId} {fl n : Nat} {l : List En} {put : Ent → Store} [hr : RowAt v σ E 4 (l.map En.av) fl put rest] (h : entsG s0 = some l) : ∃ u u1 τ, AEnd.ret (.tuple [.own v n, B true]) = .ret u ∧ Sub σ [u] τ [u1] ∧ AEnd.ret u1 = .ret (.tuple [.lst 4 ((entsV s0).map En.av) .ro, B (entsO s0)]) ∧ τ = [] :=
  ⟨_, _, _, rfl, Sub.tuple (retOwn (Sub.app_nil _)), by simp [entsV, entsO, h], rfl⟩
set_option maxHeartbeats 2000000 in
theorem block_entries_ok (s0 : List UInt8) (m : SM) (hl : s0.length ≤ 1000000000000) : aPure Go.Proofs.Try.prog 79 [.lst 1 (s0.map byt) m] (.tuple [.lst 4 ((entsV s0).map En.av) .ro, B (entsO s0)]) := by
  refine ACalls.fin (block_entries.go ?_)
  unfold block_entries.sh
  repeat' (first | with_reducible apply Stp.go | with_reducible refine imp fun _ => ?_ | (with_reducible refine hyp ?_ ?_; first | assumption | exact leftT_mem (by assumption)) | (with_reducible refine need ?_ ?_; first | trivial | omega | exact ⟨by assumption, by omega⟩ | (simp only [List.length_append, List.length_cons, List.length_nil, List.length_map, List.length_take, List.length_drop, List.length_replicate, List.length_set]; omega)) | (with_reducible refine fact ?_ ?_; first | trivial | exact ⟨rfl, rfl⟩ | kernel_rfl) | with_reducible refine choT (by assumption) ?_ | with_reducible refine choF (by assumption) ?_ | with_reducible refine choF' (by assumption) ?_ | (with_reducible refine altT ?_ ?_; first | omega | (simp only [List.length_append, List.length_cons, List.length_nil, List.length_map, List.length_take, List.length_drop, List.length_replicate, List.length_set]; omega)) | with_reducible refine altF ?_ | with_reducible refine all fun _ => ?_ | with_reducible refine both ?_ ?_ | (with_reducible refine choT ?_ ?_; omega) | (with_reducible refine choF ?_ ?_; omega) | with_reducible refine cho (fun _ => ?_) (fun _ => ?_))
  rename_i b1 b2 b3
  refine loopI (β := List UInt8 × List UInt8 × List En × Value × SM) (fun x => x.2.2.1.length ≤ 65 ∧ x.1.length + x.2.1.length ≤ s0.length ∧ entsA (65 - x.2.2.1.length) x.1 x.2.1 x.2.2.1 = entsG s0)
    (fun x => [ptrAt b1 0, ptrAt b2 0, ptrAt b3 0, S x.1]) (fun x => [.row x.2.2.2.1 52 4 (x.2.2.1.map En.av) 0, .var b3 4 [B false], .var b2 22 [.own x.2.2.2.1 x.2.2.1.length], .var b1 122 [.lst 1 (x.2.1.map byt) x.2.2.2.2]])
    (fun x => 65 - x.2.2.1.length) ([], s0, [], .slice none 0 0, m) ⟨by simp, by simp, rfl⟩ ?_ ?_
  · exact Sub.nilV b2 (σ := [.var b3 4 [B false], .var b2 22 [.val (.slice none 0 0)], .var b1 122 [.lst 1 (s0.map byt) m]]) 52 (sz := 4) (by decide) [] [] rfl _
  rintro ⟨k, s, l, v, m⟩ ⟨h1, h2, h3⟩
  dsimp only at h1 h2 h3 ⊢
  have hku : (UInt64.ofNat k.length).toNat = k.length := u64_len (by omega)
  have hM : (1099511627776 : UInt64).toNat = 1099511627776 := rfl
  obtain ⟨a1, a2, a3, a4⟩ := get_bound (s := s)
  obtain ⟨s1, hs1⟩ : ∃ x, x = s.drop (getN s) := ⟨_, rfl⟩
  obtain ⟨c1, c2, c3⟩ := text_bound (s := s1)
  have c4 := text_le s1
  obtain ⟨s2, hs2⟩ : ∃ x, x = s1.drop (textN s1) := ⟨_, rfl⟩
  obtain ⟨s3, hs3⟩ : ∃ x, x = s2.drop 1 := ⟨_, rfl⟩
  obtain ⟨d1, d2, d3, d4⟩ := get_bound (s := s3)
  obtain ⟨s4, hs4⟩ : ∃ x, x = s3.drop (getN s3) := ⟨_, rfl⟩
  obtain ⟨g1, g2, g3⟩ := text_bound (s := s4)
  have l1 : s1.length + getN s = s.length := by rw [hs1, List.length_drop]; omega
  have l2 : s2.length + textN s1 = s1.length := by rw [hs2, List.length_drop]; omega
  have l3 : s3.length ≤ s2.length := by rw [hs3, List.length_drop]; omega
  have l4 : s4.length ≤ s3.length := by rw [hs4, List.length_drop]; omega
  have lk : (k.take (getV s)).length ≤ k.length := by rw [List.length_take]; omega
  subst hs4 hs3 hs2 hs1
  repeat' (first | with_reducible apply Stp.go | with_reducible refine imp fun _ => ?_ | (with_reducible refine hyp ?_ ?_; first | assumption | exact leftT_mem (by assumption)) | (with_reducible refine need ?_ ?_; first | trivial | omega | exact ⟨by assumption, by omega⟩ | (simp only [List.length_append, List.length_cons, List.length_nil, List.length_map, List.length_take, List.length_drop, List.length_replicate, List.length_set]; omega)) | (with_reducible refine fact ?_ ?_; first | trivial | exact ⟨rfl, rfl⟩ | kernel_rfl) | with_reducible refine choT (by assumption) ?_ | with_reducible refine choF (by assumption) ?_ | with_reducible refine choF' (by assumption) ?_ | (with_reducible refine altT ?_ ?_; first | omega | (simp only [List.length_append, List.length_cons, List.length_nil, List.length_map, List.length_take, List.length_drop, List.length_replicate, List.length_set]; omega)) | with_reducible refine altF ?_ | with_reducible refine all fun _ => ?_ | with_reducible refine both ?_ ?_ | (with_reducible refine choT ?_ ?_; omega) | (with_reducible refine choF ?_ ?_; omega) | with_reducible refine cho (fun _ => ?_) (fun _ => ?_))
  · rename_i h0 hl h5 h6 h7 h8 b
    rw [hM] at h8
    rw [hku] at h5
    have e0 := entG_pos h5
    rw [entG1_pos h6, entG2_pos h7, entG3_pos h8] at e0
    refine joinE ?_
    cases hd : decide ((List.getD (List.drop (textN (List.drop (getN s) s)) (List.drop (getN s) s)) 0 default).toNat = 1) with
    | true =>
      rw [hd, entG4_del] at e0
      have ht : (true : Bool) = true := rfl
      repeat' (first | with_reducible apply Stp.go | with_reducible refine imp fun _ => ?_ | (with_reducible refine hyp ?_ ?_; first | assumption | exact leftT_mem (by assumption)) | (with_reducible refine need ?_ ?_; first | trivial | omega | exact ⟨by assumption, by omega⟩ | (simp only [List.length_append, List.length_cons, List.length_nil, List.length_map, List.length_take, List.length_drop, List.length_replicate, List.length_set]; omega)) | (with_reducible refine fact ?_ ?_; first | trivial | exact ⟨rfl, rfl⟩ | kernel_rfl) | with_reducible refine choT (by assumption) ?_ | with_reducible refine choF (by assumption) ?_ | with_reducible refine choF' (by assumption) ?_ | (with_reducible refine altT ?_ ?_; first | omega | (simp only [List.length_append, List.length_cons, List.length_nil, List.length_map, List.length_take, List.length_drop, List.length_replicate, List.length_set]; omega)) | with_reducible refine altF ?_ | with_reducible refine all fun _ => ?_ | with_reducible refine both ?_ ?_ | (with_reducible refine choT ?_ ?_; omega) | (with_reducible refine choF ?_ ?_; omega) | with_reducible refine cho (fun _ => ?_) (fun _ => ?_))
      rename_i w
      exact again (_, _, l ++ [_], w, .ro) (by dsimp only; rw [List.length_append]; simp only [List.length_cons, List.length_nil]; omega) ⟨by dsimp only; rw [List.length_append]; simp only [List.length_cons, List.length_nil]; omega, by have := (entG_le e0).1; dsimp only at this ⊢; omega, (entsA_next hl h0 e0).trans h3⟩ (subS _)
    | false =>
      rw [hd] at e0
      have ht : (false : Bool) = false := rfl
      repeat' (first | with_reducible apply Stp.go | with_reducible refine imp fun _ => ?_ | (with_reducible refine hyp ?_ ?_; first | assumption | exact leftT_mem (by assumption)) | (with_reducible refine need ?_ ?_; first | trivial | omega | exact ⟨by assumption, by omega⟩ | (simp only [List.length_append, List.length_cons, List.length_nil, List.length_map, List.length_take, List.length_drop, List.length_replicate, List.length_set]; omega)) | (with_reducible refine fact ?_ ?_; first | trivial | exact ⟨rfl, rfl⟩ | kernel_rfl) | with_reducible refine choT (by assumption) ?_ | with_reducible refine choF (by assumption) ?_ | with_reducible refine choF' (by assumption) ?_ | (with_reducible refine altT ?_ ?_; first | omega | (simp only [List.length_append, List.length_cons, List.length_nil, List.length_map, List.length_take, List.length_drop, List.length_replicate, List.length_set]; omega)) | with_reducible refine altF ?_ | with_reducible refine all fun _ => ?_ | with_reducible refine both ?_ ?_ | (with_reducible refine choT ?_ ?_; omega) | (with_reducible refine choF ?_ ?_; omega) | with_reducible refine cho (fun _ => ?_) (fun _ => ?_))
      · rename_i h9 w
        rw [entG4_pos h9] at e0
        exact again (_, _, l ++ [_], w, .ro) (by dsimp only; rw [List.length_append]; simp only [List.length_cons, List.length_nil]; omega) ⟨by dsimp only; rw [List.length_append]; simp only [List.length_cons, List.length_nil]; omega, by have := (entG_le e0).1; dsimp only at this ⊢; omega, (entsA_next hl h0 e0).trans h3⟩ (subS _)
      · rename_i h9 w
        rw [entG4_neg h9] at e0
        exact ents_fail (h3.symm.trans (entsA_stop hl h0 e0))
  · rename_i h0 hl h5 h6 h7 h8 b
    rw [hM] at h8
    rw [hku] at h5
    exact ents_fail (h3.symm.trans (entsA_stop hl h0 (by rw [entG_pos h5, entG1_pos h6, entG2_pos h7, entG3_neg h8])))
  · rename_i h0 hl h5 h6 h7 b
    rw [hku] at h5
    exact ents_fail (h3.symm.trans (entsA_stop hl h0 (by rw [entG_pos h5, entG1_pos h6, entG2_neg h7])))
  · rename_i h0 hl h5 h6 b
    rw [hku] at h5
    exact ents_fail (h3.symm.trans (entsA_stop hl h0 (by rw [entG_pos h5, entG1_neg h6])))
  · rename_i h0 hl h5 b
    rw [hku] at h5
    exact ents_fail (h3.symm.trans (entsA_stop hl h0 (by rw [entG_neg h5])))
  · rename_i h0 hl
    exact ents_done (h3.symm.trans (entsA_end h1 (.inr hl)))
  · rename_i h0
    exact ents_done (h3.symm.trans (entsA_end h1 (.inl (by omega))))
instance {a : AV} {l : List UInt8} {m : SM} [h : IsL a byt 1 l m] : PC Go.Proofs.Try.prog 79 [a] (l.length ≤ 1000000000000) (.tuple [.lst 4 ((entsV l).map En.av) .ro, B (entsO l)]) := ⟨fun hl => ⟨[.lst 1 (l.map byt) m], ⟨h.sub, trivial⟩, block_entries_ok l m hl⟩⟩
set_option maxHeartbeats 2000000 in
theorem ref04_entries_ok (s0 : List UInt8) (hl : s0.length ≤ 1000000000000) : aPure Go.Proofs.Try.prog 80 [S s0] (.tuple [.lst 4 ((entsV s0).map En.av) .ro, B (entsO s0)]) := by
  refine ACalls.fin (ref04_entries.go ?_)
  unfold ref04_entries.sh
  repeat' (first | with_reducible apply Stp.go | with_reducible refine imp fun _ => ?_ | (with_reducible refine hyp ?_ ?_; first | assumption | exact leftT_mem (by assumption)) | (with_reducible refine need ?_ ?_; first | trivial | omega | exact ⟨by assumption, by omega⟩ | (simp only [List.length_append, List.length_cons, List.length_nil, List.length_map, List.length_take, List.length_drop, List.length_replicate, List.length_set]; omega)) | (with_reducible refine fact ?_ ?_; first | trivial | exact ⟨rfl, rfl⟩ | kernel_rfl) | with_reducible refine choT (by assumption) ?_ | with_reducible refine choF (by assumption) ?_ | with_reducible refine choF' (by assumption) ?_ | (with_reducible refine altT ?_ ?_; first | omega | (simp only [List.length_append, List.length_cons, List.length_nil, List.length_map, List.length_take, List.length_drop, List.length_replicate, List.length_set]; omega)) | with_reducible refine altF ?_ | with_reducible refine all fun _ => ?_ | with_reducible refine both ?_ ?_ | (with_reducible refine choT ?_ ?_; omega) | (with_reducible refine choF ?_ ?_; omega) | with_reducible refine cho (fun _ => ?_) (fun _ => ?_))
  refine loopI (β := List UInt8 × List UInt8 × List En × Value) (fun x => x.2.2.1.length ≤ 65 ∧ x.1.length + x.2.1.length ≤ s0.length ∧ entsA (65 - x.2.2.1.length) x.1 x.2.1 x.2.2.1 = entsG s0)
    (fun x => [S x.2.1, .own x.2.2.2 x.2.2.1.length, S x.1]) (fun x => [.row x.2.2.2 52 4 (x.2.2.1.map En.av) 0])
    (fun x => 65 - x.2.2.1.length) ([], s0, [], .slice none 0 0) ⟨by simp, by simp, rfl⟩ (Sub.nil_own 52 (by decide) _ [_] [_]) ?_
  rintro ⟨k, s, l, v⟩ ⟨h1, h2, h3⟩
  dsimp only at h1 h2 h3 ⊢
  have hkm : k.length % 18446744073709551616 = k.length := Nat.mod_eq_of_lt (by omega)
  obtain ⟨a1, a2, a3, a4⟩ := get_bound (s := s)
  have hvm : getV s % 18446744073709551616 = getV s := Nat.mod_eq_of_lt a1
  obtain ⟨s1, hs1⟩ : ∃ x, x = s.drop (getN s) := ⟨_, rfl⟩
  obtain ⟨c1, c2, c3⟩ := text_bound (s := s1)
  have c4 := text_le s1
  obtain ⟨s3, hs3⟩ : ∃ x, x = s.drop (getN s + textN s1 + 1) := ⟨_, rfl⟩
  have e3 : s3 = ((s.drop (getN s)).drop (textN s1)).drop 1 := by rw [hs3, List.drop_drop, List.drop_drop, Nat.add_assoc]
  have e2 : s.getD (getN s + textN s1) 0 = ((s.drop (getN s)).drop (textN s1)).getD 0 default := by
    rw [List.drop_drop, List.getD_eq_getElem?_getD, List.getD_eq_getElem?_getD, List.getElem?_drop, Nat.add_zero]
    rfl
  obtain ⟨d1, d2, d3, d4⟩ := get_bound (s := s3)
  have hdm : getV s3 % 18446744073709551616 = getV s3 := Nat.mod_eq_of_lt d1
  obtain ⟨s4, hs4⟩ : ∃ x, x = s3.drop (getN s3) := ⟨_, rfl⟩
  obtain ⟨g1, g2, g3⟩ := text_bound (s := s4)
  have l1 : s1.length + getN s = s.length := by rw [hs1, List.length_drop]; omega
  have l2 : s3.length = s1.length - textN s1 - 1 := by rw [hs3, List.length_drop]; omega
  have l4 : s4.length ≤ s3.length := by rw [hs4, List.length_drop]; omega
  have lk : (k.take (getV s)).length ≤ k.length := by rw [List.length_take]; omega
  subst hs4 hs3 hs1
  have hne : s ≠ [] ↔ 0 < s.length := List.length_pos_iff.symm
  have hq : ∀ x : Nat, ¬ 1099511627776 % 18446744073709551616 < x % 18446744073709551616 → x % 18446744073709551616 ≤ 1099511627776 := fun x h => by omega
  have hq' : ∀ x : Nat, 1099511627776 % 18446744073709551616 < x % 18446744073709551616 → ¬ x % 18446744073709551616 ≤ 1099511627776 := fun x h => by omega
  repeat' (first | with_reducible apply Stp.go | with_reducible refine imp fun _ => ?_ | (with_reducible refine hyp ?_ ?_; first | assumption | exact leftT_mem (by assumption)) | (with_reducible refine need ?_ ?_; first | trivial | omega | exact ⟨by assumption, by omega⟩ | (simp only [List.length_append, List.length_cons, List.length_nil, List.length_map, List.length_take, List.length_drop, List.length_replicate, List.length_set]; omega)) | (with_reducible refine fact ?_ ?_; first | trivial | exact ⟨rfl, rfl⟩ | kernel_rfl) | with_reducible refine choT (by assumption) ?_ | with_reducible refine choF (by assumption) ?_ | with_reducible refine choF' (by assumption) ?_ | (with_reducible refine altT ?_ ?_; first | omega | (simp only [List.length_append, List.length_cons, List.length_nil, List.length_map, List.length_take, List.length_drop, List.length_replicate, List.length_set]; omega)) | with_reducible refine altF ?_ | with_reducible refine all fun _ => ?_ | with_reducible refine both ?_ ?_ | (with_reducible refine choT ?_ ?_; omega) | (with_reducible refine choF ?_ ?_; omega) | with_reducible refine cho (fun _ => ?_) (fun _ => ?_))
  · rename_i h0
    exact ents_done (h3.symm.trans (entsA_end h1 (.inl (by rw [h0]; rfl))))
  · rename_i h0 hl h5 h6
    rw [hkm, hvm] at h6
    exact ents_fail (h3.symm.trans (entsA_stop hl (hne.1 h0) (entG_neg fun h => by have := h.2; omega)))
  · rename_i h0 hl h5 h6 h7 h8
    rw [hkm, hvm] at h6
    exact ents_fail (h3.symm.trans (entsA_stop hl (hne.1 h0) (by rw [entG_pos ⟨h5, by omega⟩, entG1_pos h7, entG2_neg fun h => by have := h.1; rw [List.length_drop] at this; omega])))
  · rename_i h0 hl h5 h6 h7 h8 h9
    rw [hkm, hvm] at h6
    rw [e2] at h9
    exact ents_fail (h3.symm.trans (entsA_stop hl (hne.1 h0) (by rw [entG_pos ⟨h5, by omega⟩, entG1_pos h7, entG2_neg fun h => by omega])))
  · rename_i h0 hl h5 h6 h7 h8 h9 h10 h11
    rw [hkm, hvm] at h6
    rw [e2] at h9
    have h11 := hq' _ h11
    rw [hdm] at h11
    rw [e3] at h10 h11
    exact ents_fail (h3.symm.trans (entsA_stop hl (hne.1 h0) (by rw [entG_pos ⟨h5, by omega⟩, entG1_pos h7, entG2_pos ⟨by rw [List.length_drop]; omega, by omega⟩, entG3_neg fun h => h11 h.2])))
  · rename_i h0 hl h5 h6 h7 h8 h9 h10 h11
    have h11 := hq _ h11
    refine need (by omega) ?_
    rw [hdm] at h11
    rw [hkm, hvm] at h6
    rw [e2] at h9
    have e0 := entG_pos (k := k) (s := s) ⟨h5, by omega⟩
    rw [entG1_pos h7, entG2_pos ⟨by rw [List.length_drop]; omega, by omega⟩, entG3_pos (by rw [← e3]; exact ⟨h10, h11⟩), ← e2, ← e3] at e0
    repeat' (first | with_reducible apply Stp.go | with_reducible refine imp fun _ => ?_ | (with_reducible refine hyp ?_ ?_; first | assumption | exact leftT_mem (by assumption)) | (with_reducible refine need ?_ ?_; first | trivial | omega | exact ⟨by assumption, by omega⟩ | (simp only [List.length_append, List.length_cons, List.length_nil, List.length_map, List.length_take, List.length_drop, List.length_replicate, List.length_set]; omega)) | (with_reducible refine fact ?_ ?_; first | trivial | exact ⟨rfl, rfl⟩ | kernel_rfl) | with_reducible refine choT (by assumption) ?_ | with_reducible refine choF (by assumption) ?_ | with_reducible refine choF' (by assumption) ?_ | (with_reducible refine altT ?_ ?_; first | omega | (simp only [List.length_append, List.length_cons, List.length_nil, List.length_map, List.length_take, List.length_drop, List.length_replicate, List.length_set]; omega)) | with_reducible refine altF ?_ | with_reducible refine all fun _ => ?_ | with_reducible refine both ?_ ?_ | (with_reducible refine choT ?_ ?_; omega) | (with_reducible refine choF ?_ ?_; omega) | with_reducible refine cho (fun _ => ?_) (fun _ => ?_))
    rename_i b
    rw [hdm, hvm]
    refine joinE ?_
    cases hd : decide ((s.getD (getN s + textN (s.drop (getN s))) 0).toNat = 1) with
    | true =>
      rw [hd, entG4_del] at e0
      have ht : (true : Bool) = true := rfl
      repeat' (first | with_reducible apply Stp.go | with_reducible refine imp fun _ => ?_ | (with_reducible refine hyp ?_ ?_; first | assumption | exact leftT_mem (by assumption)) | (with_reducible refine need ?_ ?_; first | trivial | omega | exact ⟨by assumption, by omega⟩ | (simp only [List.length_append, List.length_cons, List.length_nil, List.length_map, List.length_take, List.length_drop, List.length_replicate, List.length_set]; omega)) | (with_reducible refine fact ?_ ?_; first | trivial | exact ⟨rfl, rfl⟩ | kernel_rfl) | with_reducible refine choT (by assumption) ?_ | with_reducible refine choF (by assumption) ?_ | with_reducible refine choF' (by assumption) ?_ | (with_reducible refine altT ?_ ?_; first | omega | (simp only [List.length_append, List.length_cons, List.length_nil, List.length_map, List.length_take, List.length_drop, List.length_replicate, List.length_set]; omega)) | with_reducible refine altF ?_ | with_reducible refine all fun _ => ?_ | with_reducible refine both ?_ ?_ | (with_reducible refine choT ?_ ?_; omega) | (with_reducible refine choF ?_ ?_; omega) | with_reducible refine cho (fun _ => ?_) (fun _ => ?_))
      rename_i w
      exact again (_, _, l ++ [_], w) (by dsimp only; rw [List.length_append]; simp only [List.length_cons, List.length_nil]; omega) ⟨by dsimp only; rw [List.length_append]; simp only [List.length_cons, List.length_nil]; omega, by have := (entG_le e0).1; dsimp only at this ⊢; omega, (entsA_next hl (hne.1 h0) e0).trans h3⟩ (subS _)
    | false =>
      rw [hd] at e0
      have ht : (false : Bool) = false := rfl
      repeat' (first | with_reducible apply Stp.go | with_reducible refine imp fun _ => ?_ | (with_reducible refine hyp ?_ ?_; first | assumption | exact leftT_mem (by assumption)) | (with_reducible refine need ?_ ?_; first | trivial | omega | exact ⟨by assumption, by omega⟩ | (simp only [List.length_append, List.length_cons, List.length_nil, List.length_map, List.length_take, List.length_drop, List.length_replicate, List.length_set]; omega)) | (with_reducible refine fact ?_ ?_; first | trivial | exact ⟨rfl, rfl⟩ | kernel_rfl) | with_reducible refine choT (by assumption) ?_ | with_reducible refine choF (by assumption) ?_ | with_reducible refine choF' (by assumption) ?_ | (with_reducible refine altT ?_ ?_; first | omega | (simp only [List.length_append, List.length_cons, List.length_nil, List.length_map, List.length_take, List.length_drop, List.length_replicate, List.length_set]; omega)) | with_reducible refine altF ?_ | with_reducible refine all fun _ => ?_ | with_reducible refine both ?_ ?_ | (with_reducible refine choT ?_ ?_; omega) | (with_reducible refine choF ?_ ?_; omega) | with_reducible refine cho (fun _ => ?_) (fun _ => ?_))
      · rename_i h9 w
        rw [entG4_pos h9] at e0
        exact again (_, _, l ++ [_], w) (by dsimp only; rw [List.length_append]; simp only [List.length_cons, List.length_nil]; omega) ⟨by dsimp only; rw [List.length_append]; simp only [List.length_cons, List.length_nil]; omega, by have := (entG_le e0).1; dsimp only at this ⊢; omega, (entsA_next hl (hne.1 h0) e0).trans h3⟩ (subS _)
      · rename_i h9
        rw [entG4_neg h9] at e0
        exact ents_fail (h3.symm.trans (entsA_stop hl (hne.1 h0) e0))
  · rename_i h0 hl h5 h6 h7 h8 h9 h10
    rw [hkm, hvm] at h6
    rw [e2] at h9
    rw [e3] at h10
    exact ents_fail (h3.symm.trans (entsA_stop hl (hne.1 h0) (by rw [entG_pos ⟨h5, by omega⟩, entG1_pos h7, entG2_pos ⟨by rw [List.length_drop]; omega, by omega⟩, entG3_neg fun h => h10 h.1])))
  · rename_i h0 hl h5 h6 h7
    rw [hkm, hvm] at h6
    exact ents_fail (h3.symm.trans (entsA_stop hl (hne.1 h0) (by rw [entG_pos ⟨h5, by omega⟩, entG1_neg h7])))
  · rename_i h0 hl h5
    exact ents_fail (h3.symm.trans (entsA_stop hl (hne.1 h0) (entG_neg fun h => h5 h.1)))
  · rename_i h0 hl
    exact ents_done (h3.symm.trans (entsA_end h1 (.inr hl)))
instance {l : List UInt8} : PC Go.Proofs.Try.prog 80 [S l] (l.length ≤ 1000000000000) (.tuple [.lst 4 ((entsV l).map En.av) .ro, B (entsO l)]) := ⟨fun hl => PC.of (ref04_entries_ok l hl)⟩
end Go.Ab

/- Numbers of four bytes read; a block read. -/
set_option linter.unusedVariables false
set_option linter.unusedSimpArgs false
namespace Go.Ab
/-- What bytes say, the greatest first. -/
def valB (l : List UInt8) : Nat := l.foldl (fun a c => a * 256 + c.toNat) 0
theorem valB_snoc (l : List UInt8) (c : UInt8) : valB (l ++ [c]) = valB l * 256 + c.toNat := by simp [valB, List.foldl_append]
theorem valB_lt : ∀ (n : Nat) (l : List UInt8), l.length = n → valB l < 256 ^ n
  | 0, l, h => by rw [List.length_eq_zero_iff.1 h]; decide
  | n + 1, l, h => by
    have hne : l ≠ [] := fun e => by rw [e] at h; cases h
    obtain ⟨l', c, rfl⟩ : ∃ l' c, l = l' ++ [c] := ⟨l.dropLast, l.getLast hne, (List.dropLast_concat_getLast hne).symm⟩
    have ih := valB_lt n l' (by simpa using h)
    have := UInt8.toNat_lt c
    rw [valB_snoc, Nat.pow_succ]
    omega
def fixV (l : List UInt8) : Nat := if 4 ≤ l.length then valB (l.take 4) else 0
theorem fixV_lt (l : List UInt8) : fixV l < 4294967296 := by
  unfold fixV
  split
  · exact valB_lt 4 _ (by rw [List.length_take]; omega)
  · decide
def codec_Fixed.mark : Mark := ⟨fun t => false, fun t => false, fun t => false, fun t => Nat.beq t 16, fun t => false⟩
def codec_Fixed.ann : Ann := ⟨fun n => bif Nat.beq n 5 then [4, 11, 12, 13] else [], fun n => none, fun n => none⟩
/-- 'marlstone/codec.Fixed' -/
def codec_Fixed.sh (a0 : AV) (σ : Store) (Q : AEnd → Store → Prop) : Prop :=
  Do (aBuiltin Go.Proofs.Try.prog .len #[25] [a0]) fun t8 =>
  Do (aBin Go.Proofs.Try.prog .lss 3 t8 (.val (.int .i64 4))) fun t9 =>
  aCond t9
    (Q (.ret (.tuple [(W32 0), (.val (.bool false))])) σ)
    (Do (aSlice .slice 1 a0 none (some (.val (.int .i64 4))) none) fun t11 =>
  Do (aBuiltin Go.Proofs.Try.prog .len #[25] [t11]) fun t12 =>
  aLoop (fun go vs σ =>
    At vs 0 fun s4 => At vs 1 fun s11 => At vs 2 fun s12 => At vs 3 fun s13 => Do (aBin Go.Proofs.Try.prog .lss 3 s13 s12) fun t14 =>
    aCond t14
      (Do (aIndexAddr .slice 1 s11 s13) fun t15 =>
    Do (loadF false 1 t15) fun t16 =>
    Do (aBin Go.Proofs.Try.prog .shl 73 s4 (W64 8)) fun t18 =>
    Do (fun x => aConvN 5 73 t16 x Go.Proofs.Try.prog) fun t20 =>
    Do (aBin Go.Proofs.Try.prog .or 73 t18 t20) fun t21 =>
    Do (aBin Go.Proofs.Try.prog .add 3 s13 (.val (.int .i64 1))) fun t22 =>
    go [t21, s11, s12, t22] σ)
      (Q (.ret (.tuple [s4, (.val (.bool true))])) σ))
    [(W32 0), t11, t12, (.val (.int .i64 0))] σ)
theorem codec_Fixed.eq (a0 : AV) (σ : Store) (Q : AEnd → Store → Prop) : vc (semOf Go.Proofs.Try.prog codec_Fixed.mark) Go.Proofs.Try.f76.ntmps codec_Fixed.ann (bodyOf Go.Proofs.Try.f76) (endK [.tmp 2, .tmp 3] Q) (argFr [a0]) σ = codec_Fixed.sh a0 σ Q := by kernel_rfl
theorem codec_Fixed.go {a0 : AV} {σ : Store} {Q : AEnd → Store → Prop} (h : codec_Fixed.sh a0 σ Q) : ACalls Go.Proofs.Try.prog 76 [a0] σ Q :=
  acalls_of_eq [.tmp 2, .tmp 3] Go.Proofs.Try.func76 (by kernel_rfl) (by kernel_rfl) (by kernel_rfl) (by kernel_rfl) (codec_Fixed.eq a0 σ Q) h
def ref01_Fixed.mark : Mark := ⟨fun t => false, fun t => false, fun t => false, fun t => false, fun t => false⟩
def ref01_Fixed.ann : Ann := ⟨fun n => [], fun n => none, fun n => none⟩
/-- 'marlstone/marlstoneref01.Fixed' -/
def ref01_Fixed.sh (a0 : AV) (σ : Store) (Q : AEnd → Store → Prop) : Prop :=
  Do (aBuiltin Go.Proofs.Try.prog .len #[9] [a0]) fun t5 =>
  Do (aBin Go.Proofs.Try.prog .lss 3 t5 (.val (.int .i64 4))) fun t6 =>
  aCond t6
    (Q (.ret (.tuple [(W32 0), (.val (.bool false))])) σ)
    (Do (aIndex .string false 1 a0 (.val (.int .i64 0))) fun t8 =>
  Do (fun x => aConvN 5 73 t8 x Go.Proofs.Try.prog) fun t9 =>
  Do (aBin Go.Proofs.Try.prog .shl 73 t9 (W64 24)) fun t10 =>
  Do (aIndex .string false 1 a0 (.val (.int .i64 1))) fun t12 =>
  Do (fun x => aConvN 5 73 t12 x Go.Proofs.Try.prog) fun t13 =>
  Do (aBin Go.Proofs.Try.prog .shl 73 t13 (W64 16)) fun t14 =>
  Do (aBin Go.Proofs.Try.prog .or 73 t10 t14) fun t15 =>
  Do (aIndex .string false 1 a0 (.val (.int .i64 2))) fun t17 =>
  Do (fun x => aConvN 5 73 t17 x Go.Proofs.Try.prog) fun t18 =>
  Do (aBin Go.Proofs.Try.prog .shl 73 t18 (W64 8)) fun t19 =>
  Do (aBin Go.Proofs.Try.prog .or 73 t15 t19) fun t20 =>
  Do (aIndex .string false 1 a0 (.val (.int .i64 3))) fun t22 =>
  Do (fun x => aConvN 5 73 t22 x Go.Proofs.Try.prog) fun t23 =>
  Do (aBin Go.Proofs.Try.prog .or 73 t20 t23) fun t24 =>
  Q (.ret (.tuple [t24, (.val (.bool true))])) σ)
theorem ref01_Fixed.eq (a0 : AV) (σ : Store) (Q : AEnd → Store → Prop) : vc (semOf Go.Proofs.Try.prog ref01_Fixed.mark) Go.Proofs.Try.f50.ntmps ref01_Fixed.ann (bodyOf Go.Proofs.Try.f50) (endK [.tmp 2, .tmp 3] Q) (argFr [a0]) σ = ref01_Fixed.sh a0 σ Q := by kernel_rfl
theorem ref01_Fixed.go {a0 : AV} {σ : Store} {Q : AEnd → Store → Prop} (h : ref01_Fixed.sh a0 σ Q) : ACalls Go.Proofs.Try.prog 50 [a0] σ Q :=
  acalls_of_eq [.tmp 2, .tmp 3] Go.Proofs.Try.func50 (by kernel_rfl) (by kernel_rfl) (by kernel_rfl) (by kernel_rfl) (ref01_Fixed.eq a0 σ Q) h
theorem codec_Fixed_ok (l : List UInt8) (m : SM) (hl : l.length ≤ 1000000000000000) : aPure Go.Proofs.Try.prog 76 [.lst 1 (l.map byt) m] (.tuple [W32 (UInt32.ofNat (fixV l)), B (decide (4 ≤ l.length))]) := by
  refine codec_Fixed.go ?_
  unfold codec_Fixed.sh
  repeat' (first | with_reducible apply Stp.go | with_reducible refine imp fun _ => ?_ | (with_reducible refine hyp ?_ ?_; first | assumption | exact leftT_mem (by assumption)) | (with_reducible refine need ?_ ?_; first | trivial | omega | exact ⟨by assumption, by omega⟩ | (simp only [List.length_append, List.length_cons, List.length_nil, List.length_map, List.length_take, List.length_drop, List.length_replicate, List.length_set]; omega)) | (with_reducible refine fact ?_ ?_; first | trivial | exact ⟨rfl, rfl⟩ | kernel_rfl) | with_reducible refine choT (by assumption) ?_ | with_reducible refine choF (by assumption) ?_ | with_reducible refine choF' (by assumption) ?_ | (with_reducible refine altT ?_ ?_; first | omega | (simp only [List.length_append, List.length_cons, List.length_nil, List.length_map, List.length_take, List.length_drop, List.length_replicate, List.length_set]; omega)) | with_reducible refine altF ?_ | with_reducible refine all fun _ => ?_ | with_reducible refine both ?_ ?_ | (with_reducible refine choT ?_ ?_; omega) | (with_reducible refine choF ?_ ?_; omega) | with_reducible refine cho (fun _ => ?_) (fun _ => ?_))
  · rename_i h
    have e1 : fixV l = 0 := by rw [fixV, if_neg (by omega)]
    have e2 : decide (4 ≤ l.length) = false := decide_eq_false (by omega)
    rw [e1, e2]
    exact ⟨rfl, rfl⟩
  · rename_i h
    have e3 : (l.take 4).length = 4 := by rw [List.length_take]; omega
    refine loopI (β := Nat × UInt32) (fun x => x.1 ≤ 4 ∧ x.2.toNat = valB (l.take x.1)) (fun x => [W32 x.2, .lst 1 ((l.take 4).map byt) .ro, I .i64 ((l.take 4).length : Nat), I .i64 (x.1 : Nat)]) (fun _ => []) (fun x => 4 - x.1) (0, 0) ⟨by decide, rfl⟩ (Sub.refl _ _) ?_
    rintro ⟨i, w⟩ ⟨h1, h2⟩
    dsimp only at h1 h2 ⊢
    have lt8 : (l.take i).length = i := by rw [List.length_take]; omega
    repeat' (first | with_reducible apply Stp.go | with_reducible refine imp fun _ => ?_ | (with_reducible refine hyp ?_ ?_; first | assumption | exact leftT_mem (by assumption)) | (with_reducible refine need ?_ ?_; first | trivial | omega | exact ⟨by assumption, by omega⟩ | (simp only [List.length_append, List.length_cons, List.length_nil, List.length_map, List.length_take, List.length_drop, List.length_replicate, List.length_set]; omega)) | (with_reducible refine fact ?_ ?_; first | trivial | exact ⟨rfl, rfl⟩ | kernel_rfl) | with_reducible refine choT (by assumption) ?_ | with_reducible refine choF (by assumption) ?_ | with_reducible refine choF' (by assumption) ?_ | (with_reducible refine altT ?_ ?_; first | omega | (simp only [List.length_append, List.length_cons, List.length_nil, List.length_map, List.length_take, List.length_drop, List.length_replicate, List.length_set]; omega)) | with_reducible refine altF ?_ | with_reducible refine all fun _ => ?_ | with_reducible refine both ?_ ?_ | (with_reducible refine choT ?_ ?_; omega) | (with_reducible refine choF ?_ ?_; omega) | with_reducible refine cho (fun _ => ?_) (fun _ => ?_))
    · rename_i hi
      rw [e3] at hi
      have hv := valB_lt i _ lt8
      have hp : (256 : Nat) ^ i ≤ 256 ^ 3 := Nat.pow_le_pow_right (by decide) (by omega)
      have eg : (l.take 4).getD i default = l.getD i default := by rw [List.getD_eq_getElem?_getD, List.getElem?_take, if_pos hi, ← List.getD_eq_getElem?_getD]
      refine again (i + 1, _) (by dsimp only; omega) ⟨by dsimp only; omega, ?_⟩ (Sub.refl _ _)
      have hc := UInt8.toNat_lt ((l.take 4).getD i default)
      have e1 := shl_mul (x := w) (k := 8) (by decide) (by rw [h2]; omega)
      have e2 := or_mul e1 (y := UInt32.ofNat ((l.take 4).getD i default).toNat) (by rw [b32]; exact hc)
      dsimp only
      rw [e2, b32, h2, eg, take_succ_d (by omega), valB_snoc]
    · rename_i hi
      rw [e3] at hi
      have e4 : i = 4 := by omega
      subst e4
      have e1 : fixV l = valB (l.take 4) := by rw [fixV, if_pos (by omega)]
      have e2 : decide (4 ≤ l.length) = true := decide_eq_true (by omega)
      rw [e1, e2, ← h2, UInt32.ofNat_toNat]
      exact ⟨rfl, rfl⟩
instance {a : AV} {l : List UInt8} {m : SM} [h : IsL a byt 1 l m] : PC Go.Proofs.Try.prog 76 [a] (l.length ≤ 1000000000000000) (.tuple [W32 (UInt32.ofNat (fixV l)), B (decide (4 ≤ l.length))]) := ⟨fun hl => ⟨[.lst 1 (l.map byt) m], ⟨h.sub, trivial⟩, codec_Fixed_ok l m hl⟩⟩
theorem ref01_Fixed_ok (l : List UInt8) (hl : l.length ≤ 1000000000000000) : aPure Go.Proofs.Try.prog 50 [S l] (.tuple [W32 (UInt32.ofNat (fixV l)), B (decide (4 ≤ l.length))]) := by
  refine ref01_Fixed.go ?_
  unfold ref01_Fixed.sh
  repeat' (first | with_reducible apply Stp.go | with_reducible refine imp fun _ => ?_ | (with_reducible refine hyp ?_ ?_; first | assumption | exact leftT_mem (by assumption)) | (with_reducible refine need ?_ ?_; first | trivial | omega | exact ⟨by assumption, by omega⟩ | (simp only [List.length_append, List.length_cons, List.length_nil, List.length_map, List.length_take, List.length_drop, List.length_replicate, List.length_set]; omega)) | (with_reducible refine fact ?_ ?_; first | trivial | exact ⟨rfl, rfl⟩ | kernel_rfl) | with_reducible refine choT (by assumption) ?_ | with_reducible refine choF (by assumption) ?_ | with_reducible refine choF' (by assumption) ?_ | (with_reducible refine altT ?_ ?_; first | omega | (simp only [List.length_append, List.length_cons, List.length_nil, List.length_map, List.length_take, List.length_drop, List.length_replicate, List.length_set]; omega)) | with_reducible refine altF ?_ | with_reducible refine all fun _ => ?_ | with_reducible refine both ?_ ?_ | (with_reducible refine choT ?_ ?_; omega) | (with_reducible refine choF ?_ ?_; omega) | with_reducible refine cho (fun _ => ?_) (fun _ => ?_))
  · rename_i h
    have e1 : fixV l = 0 := by rw [fixV, if_neg (by omega)]
    have e2 : decide (4 ≤ l.length) = false := decide_eq_false (by omega)
    rw [e1, e2]
    exact ⟨rfl, rfl⟩
  · rename_i h
    obtain ⟨a, b, c, d, r, rfl⟩ : ∃ a b c d r, l = a :: b :: c :: d :: r := by
      match l, h with
      | a :: b :: c :: d :: r, _ => exact ⟨a, b, c, d, r, rfl⟩
      | [], h => simp at h
      | [_], h => simp at h
      | [_, _], h => simp at h
      | [_, _, _], h => simp at h
    have e2 : decide (4 ≤ (a :: b :: c :: d :: r).length) = true := decide_eq_true (by simp)
    have e1 : fixV (a :: b :: c :: d :: r) = ((a.toNat * 256 + b.toNat) * 256 + c.toNat) * 256 + d.toNat := by
      rw [fixV, if_pos (by simp)]
      simp [valB]
    have q0 : ∀ x : UInt8, (a :: b :: c :: d :: r).getD 0 x = a := fun _ => rfl
    have q1 : ∀ x : UInt8, (a :: b :: c :: d :: r).getD 1 x = b := fun _ => rfl
    have q2 : ∀ x : UInt8, (a :: b :: c :: d :: r).getD 2 x = c := fun _ => rfl
    have q3 : ∀ x : UInt8, (a :: b :: c :: d :: r).getD 3 x = d := fun _ => rfl
    rw [q0, q1, q2, q3, e2]
    have ha := UInt8.toNat_lt a
    have hb := UInt8.toNat_lt b
    have hc := UInt8.toNat_lt c
    have hd := UInt8.toNat_lt d
    have s1 := shl_mul (x := UInt32.ofNat a.toNat) (k := 24) (by decide) (by rw [b32]; omega)
    have s2 := shl_mul (x := UInt32.ofNat b.toNat) (k := 16) (by decide) (by rw [b32]; omega)
    have s3 := shl_mul (x := UInt32.ofNat c.toNat) (k := 8) (by decide) (by rw [b32]; omega)
    rw [b32] at s1 s2 s3
    have t1 := or_mul s1 (y := UInt32.ofNat b.toNat <<< UInt32.ofNat 16) (by rw [s2]; omega)
    rw [s2] at t1
    have t2 := or_mul (q := a.toNat * 256 + b.toNat) (k := 16) (t1.trans (by omega)) (y := UInt32.ofNat c.toNat <<< UInt32.ofNat 8) (by rw [s3]; omega)
    rw [s3] at t2
    have t3 := or_mul (q := (a.toNat * 256 + b.toNat) * 256 + c.toNat) (k := 8) (t2.trans (by omega)) (y := UInt32.ofNat d.toNat) (by rw [b32]; omega)
    rw [b32] at t3
    have e3 : UInt32.ofNat (fixV (a :: b :: c :: d :: r)) = UInt32.ofNat a.toNat <<< UInt32.ofNat 24 ||| UInt32.ofNat b.toNat <<< UInt32.ofNat 16 ||| UInt32.ofNat c.toNat <<< UInt32.ofNat 8 ||| UInt32.ofNat d.toNat := by
      rw [e1, ← t3, UInt32.ofNat_toNat]
    rw [e3]
    exact ⟨rfl, rfl⟩
instance {l : List UInt8} : PC Go.Proofs.Try.prog 50 [S l] (l.length ≤ 1000000000000000) (.tuple [W32 (UInt32.ofNat (fixV l)), B (decide (4 ≤ l.length))]) := ⟨fun hl => PC.of (ref01_Fixed_ok l hl)⟩
def bytes_Equal.mark : Mark := ⟨fun t => false, fun t => false, fun t => false, fun t => false, fun t => false⟩
def bytes_Equal.ann : Ann := ⟨fun n => [], fun n => none, fun n => none⟩
/-- 'bytes.Equal' -/
def bytes_Equal.sh (a0 a1 : AV) (σ : Store) (Q : AEnd → Store → Prop) : Prop :=
  Do (aConvBS a0) fun t6 =>
  Do (aConvBS a1) fun t8 =>
  Do (aBin Go.Proofs.Try.prog .eql 9 t6 t8) fun t9 =>
  Q (.ret t9) σ
theorem bytes_Equal.eq (a0 a1 : AV) (σ : Store) (Q : AEnd → Store → Prop) : vc (semOf Go.Proofs.Try.prog bytes_Equal.mark) Go.Proofs.Try.f49.ntmps bytes_Equal.ann (bodyOf Go.Proofs.Try.f49) (endK [.tmp 4] Q) (argFr [a0, a1]) σ = bytes_Equal.sh a0 a1 σ Q := by kernel_rfl
theorem bytes_Equal.go {a0 a1 : AV} {σ : Store} {Q : AEnd → Store → Prop} (h : bytes_Equal.sh a0 a1 σ Q) : ACalls Go.Proofs.Try.prog 49 [a0, a1] σ Q :=
  acalls_of_eq [.tmp 4] Go.Proofs.Try.func49 (by kernel_rfl) (by kernel_rfl) (by kernel_rfl) (by kernel_rfl) (bytes_Equal.eq a0 a1 σ Q) h
def block_Parse.mark : Mark := ⟨fun t => Nat.beq t 20 || Nat.beq t 36 || Nat.beq t 43 || Nat.beq t 51, fun t => false, fun t => false, fun t => false, fun t => false⟩
def block_Parse.ann : Ann := ⟨fun n => [], fun n => none, fun n => none⟩
/-- 'marlstone/block.Parse' -/
def block_Parse.sh (a0 : AV) (σ : Store) (Q : AEnd → Store → Prop) : Prop :=
  Do (aBuiltin Go.Proofs.Try.prog .len #[25] [a0]) fun t12 =>
  Do (aBin Go.Proofs.Try.prog .sub 3 t12 (.val (.int .i64 4))) fun t13 =>
  Do (aBin Go.Proofs.Try.prog .lss 3 t13 (.val (.int .i64 0))) fun t15 =>
  aCond t15
    (Q (.ret (.tuple [(.val (.slice none 0 0)), (.val (.int .i64 2))])) σ)
    (Do (aSlice .slice 1 a0 (some t13) none none) fun t19 =>
  Do (aPureC Go.Proofs.Try.prog 76 [t19]) fun t20 =>
  Do (aExt t20 0) fun t21 =>
  Do (aExt t20 1) fun t22 =>
  Do (fun x => aConvN 73 2 t21 x Go.Proofs.Try.prog) fun t24 =>
  Do (aBin Go.Proofs.Try.prog .quo 3 t13 (.val (.int .i64 4))) fun t26 =>
  Do (aBin Go.Proofs.Try.prog .gtr 2 t24 t26) fun t27 =>
  aCond t27
    (Q (.ret (.tuple [(.val (.slice none 0 0)), (.val (.int .i64 2))])) σ)
    (Do (fun x => aConvN 73 3 t21 x Go.Proofs.Try.prog) fun t32 =>
  Do (aBin Go.Proofs.Try.prog .mul 3 (.val (.int .i64 4)) t32) fun t33 =>
  Do (aBin Go.Proofs.Try.prog .sub 3 t13 t33) fun t34 =>
  Do (aSlice .slice 1 a0 none (some t34) none) fun t35 =>
  Do (aPureC Go.Proofs.Try.prog 79 [t35]) fun t36 =>
  Do (aExt t36 0) fun t37 =>
  Do (aExt t36 1) fun t38 =>
  Do (aUn Go.Proofs.Try.prog .not t38) fun t40 =>
  aCond t40
    (Q (.ret (.tuple [(.val (.slice none 0 0)), (.val (.int .i64 2))])) σ)
    (Do (aPureC Go.Proofs.Try.prog 26 [t37]) fun t43 =>
  Do (aExt t43 0) fun t44 =>
  Do (aExt t43 1) fun t45 =>
  Do (aBin Go.Proofs.Try.prog .neq 26 t45 (.val (.int .i64 0))) fun t47 =>
  Do (aGuard t47 false (aIs t44)) fun t49 =>
  Do (aGuard t47 false (aIs a0)) fun t50 =>
  Do (aGuard t47 false (aPureC Go.Proofs.Try.prog 49 [t49, t50])) fun t51 =>
  Do (aGuard t47 false (aUn Go.Proofs.Try.prog .not t51)) fun t52 =>
  Do (aPick t47 (.val (.bool true)) t52) fun t53 =>
  aCond t53
    (Q (.ret (.tuple [(.val (.slice none 0 0)), (.val (.int .i64 2))])) σ)
    (Q (.ret (.tuple [t37, (.val (.int .i64 0))])) σ))))
theorem block_Parse.eq (a0 : AV) (σ : Store) (Q : AEnd → Store → Prop) : vc (semOf Go.Proofs.Try.prog block_Parse.mark) Go.Proofs.Try.f48.ntmps block_Parse.ann (bodyOf Go.Proofs.Try.f48) (endK [.tmp 2, .tmp 3] Q) (argFr [a0]) σ = block_Parse.sh a0 σ Q := by kernel_rfl
theorem block_Parse.go {a0 : AV} {σ : Store} {Q : AEnd → Store → Prop} (h : block_Parse.sh a0 σ Q) : ACalls Go.Proofs.Try.prog 48 [a0] σ Q :=
  acalls_of_eq [.tmp 2, .tmp 3] Go.Proofs.Try.func48 (by kernel_rfl) (by kernel_rfl) (by kernel_rfl) (by kernel_rfl) (block_Parse.eq a0 σ Q) h
def ref04_Parse.mark : Mark := ⟨fun t => Nat.beq t 19 || Nat.beq t 40 || Nat.beq t 47, fun t => false, fun t => false, fun t => false, fun t => false⟩
def ref04_Parse.ann : Ann := ⟨fun n => [], fun n => none, fun n => none⟩
/-- 'marlstone/marlstoneref04.Parse' -/
def ref04_Parse.sh (a0 : AV) (σ : Store) (Q : AEnd → Store → Prop) : Prop :=
  Do (aBuiltin Go.Proofs.Try.prog .len #[9] [a0]) fun t11 =>
  Do (aBin Go.Proofs.Try.prog .lss 3 t11 (.val (.int .i64 4))) fun t12 =>
  aCond t12
    (Q (.ret (.tuple [(.val (.slice none 0 0)), (.val (.int .i64 2))])) σ)
    (Do (aBuiltin Go.Proofs.Try.prog .len #[9] [a0]) fun t16 =>
  Do (aBin Go.Proofs.Try.prog .sub 3 t16 (.val (.int .i64 4))) fun t17 =>
  Do (aSlice .string 1 a0 (some t17) none none) fun t18 =>
  Do (aPureC Go.Proofs.Try.prog 50 [t18]) fun t19 =>
  Do (aExt t19 0) fun t20 =>
  Do (aExt t19 1) fun t21 =>
  Do (fun x => aConvN 73 71 t20 x Go.Proofs.Try.prog) fun t23 =>
  Do (aBuiltin Go.Proofs.Try.prog .len #[9] [a0]) fun t25 =>
  Do (aBin Go.Proofs.Try.prog .sub 3 t25 (.val (.int .i64 4))) fun t26 =>
  Do (fun x => aConvN 3 71 t26 x Go.Proofs.Try.prog) fun t27 =>
  Do (aBin Go.Proofs.Try.prog .quo 71 t27 (W64 4)) fun t28 =>
  Do (aBin Go.Proofs.Try.prog .gtr 71 t23 t28) fun t29 =>
  aCond t29
    (Q (.ret (.tuple [(.val (.slice none 0 0)), (.val (.int .i64 2))])) σ)
    (Do (aBuiltin Go.Proofs.Try.prog .len #[9] [a0]) fun t33 =>
  Do (aBin Go.Proofs.Try.prog .sub 3 t33 (.val (.int .i64 4))) fun t34 =>
  Do (fun x => aConvN 73 3 t20 x Go.Proofs.Try.prog) fun t36 =>
  Do (aBin Go.Proofs.Try.prog .mul 3 (.val (.int .i64 4)) t36) fun t37 =>
  Do (aBin Go.Proofs.Try.prog .sub 3 t34 t37) fun t38 =>
  Do (aSlice .string 1 a0 none (some t38) none) fun t39 =>
  Do (aPureC Go.Proofs.Try.prog 80 [t39]) fun t40 =>
  Do (aExt t40 0) fun t41 =>
  Do (aExt t40 1) fun t42 =>
  Do (aUn Go.Proofs.Try.prog .not t42) fun t44 =>
  aCond t44
    (Q (.ret (.tuple [(.val (.slice none 0 0)), (.val (.int .i64 2))])) σ)
    (Do (aPureC Go.Proofs.Try.prog 36 [t41]) fun t47 =>
  Do (aExt t47 0) fun t48 =>
  Do (aExt t47 1) fun t49 =>
  Do (aBin Go.Proofs.Try.prog .neq 26 t49 (.val (.int .i64 0))) fun t51 =>
  Do (aGuard t51 false (aIs t48)) fun t53 =>
  Do (aGuard t51 false (aIs a0)) fun t54 =>
  Do (aGuard t51 false (aBin Go.Proofs.Try.prog .neq 9 t53 t54)) fun t55 =>
  Do (aPick t51 (.val (.bool true)) t55) fun t56 =>
  aCond t56
    (Q (.ret (.tuple [(.val (.slice none 0 0)), (.val (.int .i64 2))])) σ)
    (Q (.ret (.tuple [t41, (.val (.int .i64 0))])) σ))))
theorem ref04_Parse.eq (a0 : AV) (σ : Store) (Q : AEnd → Store → Prop) : vc (semOf Go.Proofs.Try.prog ref04_Parse.mark) Go.Proofs.Try.f53.ntmps ref04_Parse.ann (bodyOf Go.Proofs.Try.f53) (endK [.tmp 2, .tmp 3] Q) (argFr [a0]) σ = ref04_Parse.sh a0 σ Q := by kernel_rfl
theorem ref04_Parse.go {a0 : AV} {σ : Store} {Q : AEnd → Store → Prop} (h : ref04_Parse.sh a0 σ Q) : ACalls Go.Proofs.Try.prog 53 [a0] σ Q :=
  acalls_of_eq [.tmp 2, .tmp 3] Go.Proofs.Try.func53 (by kernel_rfl) (by kernel_rfl) (by kernel_rfl) (by kernel_rfl) (ref04_Parse.eq a0 σ Q) h
theorem bytes_Equal_ok (a b : List UInt8) (m n : SM) : aPure Go.Proofs.Try.prog 49 [.lst 1 (a.map byt) m, .lst 1 (b.map byt) n] (B (decide (a = b))) := by
  refine bytes_Equal.go ?_
  unfold bytes_Equal.sh
  repeat' (first | with_reducible apply Stp.go | with_reducible refine imp fun _ => ?_ | (with_reducible refine hyp ?_ ?_; first | assumption | exact leftT_mem (by assumption)) | (with_reducible refine need ?_ ?_; first | trivial | omega | exact ⟨by assumption, by omega⟩ | (simp only [List.length_append, List.length_cons, List.length_nil, List.length_map, List.length_take, List.length_drop, List.length_replicate, List.length_set]; omega)) | (with_reducible refine fact ?_ ?_; first | trivial | exact ⟨rfl, rfl⟩ | kernel_rfl) | with_reducible refine choT (by assumption) ?_ | with_reducible refine choF (by assumption) ?_ | with_reducible refine choF' (by assumption) ?_ | (with_reducible refine altT ?_ ?_; first | omega | (simp only [List.length_append, List.length_cons, List.length_nil, List.length_map, List.length_take, List.length_drop, List.length_replicate, List.length_set]; omega)) | with_reducible refine altF ?_ | with_reducible refine all fun _ => ?_ | with_reducible refine both ?_ ?_ | (with_reducible refine choT ?_ ?_; omega) | (with_reducible refine choF ?_ ?_; omega) | with_reducible refine cho (fun _ => ?_) (fun _ => ?_))
  exact ⟨rfl, rfl⟩
instance {x y : AV} {a b : List UInt8} {m n : SM} [h : IsL x byt 1 a m] [k : IsL y byt 1 b n] : PC Go.Proofs.Try.prog 49 [x, y] True (B (decide (a = b))) := ⟨fun _ => ⟨[.lst 1 (a.map byt) m, .lst 1 (b.map byt) n], ⟨h.sub, k.sub, trivial⟩, bytes_Equal_ok a b m n⟩⟩
/-- What stands in a block. -/
def blkG (b : List UInt8) : Option (List En) :=
  if b.length < 4 then none
  else if (b.length - 4) / 4 < fixV (b.drop (b.length - 4)) then none
  else match entsG (b.take (b.length - 4 - 4 * fixV (b.drop (b.length - 4)))) with
    | none => none
    | some l => if fit l = true ∧ blockBytes l = b then some l else none
def blkV (b : List UInt8) : List En := (blkG b).getD []
def blkX (b : List UInt8) : Int := if (blkG b).isSome = true then 0 else 2
theorem blk_fail {b : List UInt8} {σ : Store} (h : blkG b = none) : ∃ u u1 τ, AEnd.ret (.tuple [.val (.slice none 0 0), I .i64 2]) = .ret u ∧ Sub σ [u] τ [u1] ∧ AEnd.ret u1 = .ret (.tuple [.lst 4 ((blkV b).map En.av) .ro, I .i64 (blkX b)]) ∧ τ = [] :=
  ⟨_, _, _, rfl, Sub.tuple (retNil En.av (sz := 4) (by decide) (Sub.app_nil _)), by simp [blkV, blkX, h], rfl⟩
theorem block_Parse_ok (b : List UInt8) (m : SM) (hl : b.length ≤ 1000000000) : aPure Go.Proofs.Try.prog 48 [.lst 1 (b.map byt) m] (.tuple [.lst 4 ((blkV b).map En.av) .ro, I .i64 (blkX b)]) := by
  refine ACalls.fin (block_Parse.go ?_)
  unfold block_Parse.sh
  have hf := fixV_lt (b.drop (b.length - 4))
  have hev := fun s => entsV_len s
  have hfm : fixV (b.drop (b.length - 4)) % 4294967296 = fixV (b.drop (b.length - 4)) := Nat.mod_eq_of_lt hf
  by_cases h4 : b.length < 4
  · repeat' (first | with_reducible apply Stp.go | with_reducible refine imp fun _ => ?_ | (with_reducible refine hyp ?_ ?_; first | assumption | exact leftT_mem (by assumption)) | (with_reducible refine need ?_ ?_; first | trivial | omega | exact ⟨by assumption, by omega⟩ | (simp only [List.length_append, List.length_cons, List.length_nil, List.length_map, List.length_take, List.length_drop, List.length_replicate, List.length_set]; omega)) | (with_reducible refine fact ?_ ?_; first | trivial | exact ⟨rfl, rfl⟩ | kernel_rfl) | with_reducible refine choT (by assumption) ?_ | with_reducible refine choF (by assumption) ?_ | with_reducible refine choF' (by assumption) ?_ | (with_reducible refine altT ?_ ?_; first | omega | (simp only [List.length_append, List.length_cons, List.length_nil, List.length_map, List.length_take, List.length_drop, List.length_replicate, List.length_set]; omega)) | with_reducible refine altF ?_ | with_reducible refine all fun _ => ?_ | with_reducible refine both ?_ ?_ | (with_reducible refine choT ?_ ?_; omega) | (with_reducible refine choF ?_ ?_; omega) | with_reducible refine cho (fun _ => ?_) (fun _ => ?_))
    exact blk_fail (by rw [blkG, if_pos h4])
  · repeat' (first | with_reducible apply Stp.go | with_reducible refine imp fun _ => ?_ | (with_reducible refine hyp ?_ ?_; first | assumption | exact leftT_mem (by assumption)) | (with_reducible refine need ?_ ?_; first | trivial | omega | exact ⟨by assumption, by omega⟩ | (simp only [List.length_append, List.length_cons, List.length_nil, List.length_map, List.length_take, List.length_drop, List.length_replicate, List.length_set]; omega)) | (with_reducible refine fact ?_ ?_; first | trivial | exact ⟨rfl, rfl⟩ | kernel_rfl) | with_reducible refine choT (by assumption) ?_ | with_reducible refine choF (by assumption) ?_ | with_reducible refine choF' (by assumption) ?_ | (with_reducible refine altT ?_ ?_; first | omega | (simp only [List.length_append, List.length_cons, List.length_nil, List.length_map, List.length_take, List.length_drop, List.length_replicate, List.length_set]; omega)) | with_reducible refine altF ?_ | with_reducible refine all fun _ => ?_ | with_reducible refine both ?_ ?_ | (with_reducible refine choT ?_ ?_; omega) | (with_reducible refine choF ?_ ?_; omega) | with_reducible refine cho (fun _ => ?_) (fun _ => ?_))
    · rename_i h5
      rw [hfm] at h5
      exact blk_fail (by rw [blkG, if_neg h4, if_pos h5])
    · rename_i h5 h6
      rw [hfm] at h5 h6 ⊢
      refine need (Nat.le_trans (hev _) (by decide)) ?_
      obtain ⟨l, hG⟩ : ∃ l, entsG (b.take (b.length - 4 - 4 * fixV (b.drop (b.length - 4)))) = some l := Option.isSome_iff_exists.1 h6
      have e : entsV (b.take (b.length - 4 - 4 * fixV (b.drop (b.length - 4)))) = l := by rw [entsV, hG]; rfl
      rw [e]
      have hB : blkG b = if fit l = true ∧ blockBytes l = b then some l else none := by rw [blkG, if_neg h4, if_neg h5, hG]
      by_cases hfit : fit l = true
      · have e1 : blkB l = blockBytes l := by rw [blkB, if_pos hfit]
        have e2 : blkE l = 0 := by rw [blkE, if_pos hfit]
        rw [e1, e2]
        repeat' (first | with_reducible apply Stp.go | with_reducible refine imp fun _ => ?_ | (with_reducible refine hyp ?_ ?_; first | assumption | exact leftT_mem (by assumption)) | (with_reducible refine need ?_ ?_; first | trivial | omega | exact ⟨by assumption, by omega⟩ | (simp only [List.length_append, List.length_cons, List.length_nil, List.length_map, List.length_take, List.length_drop, List.length_replicate, List.length_set]; omega)) | (with_reducible refine fact ?_ ?_; first | trivial | exact ⟨rfl, rfl⟩ | kernel_rfl) | with_reducible refine choT (by assumption) ?_ | with_reducible refine choF (by assumption) ?_ | with_reducible refine choF' (by assumption) ?_ | (with_reducible refine altT ?_ ?_; first | omega | (simp only [List.length_append, List.length_cons, List.length_nil, List.length_map, List.length_take, List.length_drop, List.length_replicate, List.length_set]; omega)) | with_reducible refine altF ?_ | with_reducible refine all fun _ => ?_ | with_reducible refine both ?_ ?_ | (with_reducible refine choT ?_ ?_; omega) | (with_reducible refine choF ?_ ?_; omega) | with_reducible refine cho (fun _ => ?_) (fun _ => ?_))
        · rename_i h7
          exact ⟨_, _, _, rfl, Sub.tuple (retLst (Sub.refl _ _)), by simp [blkV, blkX, hB, hfit, h7], rfl⟩
        · rename_i h7
          exact blk_fail (by rw [hB, if_neg fun h => h7 h.2])
      · have e2 : blkE l = 1 := by rw [blkE, if_neg hfit]
        rw [e2]
        repeat' (first | with_reducible apply Stp.go | with_reducible refine imp fun _ => ?_ | (with_reducible refine hyp ?_ ?_; first | assumption | exact leftT_mem (by assumption)) | (with_reducible refine need ?_ ?_; first | trivial | omega | exact ⟨by assumption, by omega⟩ | (simp only [List.length_append, List.length_cons, List.length_nil, List.length_map, List.length_take, List.length_drop, List.length_replicate, List.length_set]; omega)) | (with_reducible refine fact ?_ ?_; first | trivial | exact ⟨rfl, rfl⟩ | kernel_rfl) | with_reducible refine choT (by assumption) ?_ | with_reducible refine choF (by assumption) ?_ | with_reducible refine choF' (by assumption) ?_ | (with_reducible refine altT ?_ ?_; first | omega | (simp only [List.length_append, List.length_cons, List.length_nil, List.length_map, List.length_take, List.length_drop, List.length_replicate, List.length_set]; omega)) | with_reducible refine altF ?_ | with_reducible refine all fun _ => ?_ | with_reducible refine both ?_ ?_ | (with_reducible refine choT ?_ ?_; omega) | (with_reducible refine choF ?_ ?_; omega) | with_reducible refine cho (fun _ => ?_) (fun _ => ?_))
        exact blk_fail (by rw [hB, if_neg fun h => hfit h.1])
    · rename_i h5 h6
      rw [hfm] at h5 h6
      have hG : entsG (b.take (b.length - 4 - 4 * fixV (b.drop (b.length - 4)))) = none := by
        cases h : entsG (b.take (b.length - 4 - 4 * fixV (b.drop (b.length - 4)))) with
        | none => rfl
        | some l => rw [entsO, h] at h6; exact absurd rfl h6
      exact blk_fail (by rw [blkG, if_neg h4, if_neg h5, hG])
theorem ref04_Parse_ok (b : List UInt8) (hl : b.length ≤ 1000000000) : aPure Go.Proofs.Try.prog 53 [S b] (.tuple [.lst 4 ((blkV b).map En.av) .ro, I .i64 (blkX b)]) := by
  refine ACalls.fin (ref04_Parse.go ?_)
  unfold ref04_Parse.sh
  have hf := fixV_lt (b.drop (b.length - 4))
  have hev := fun s => entsV_len s
  have hfm : fixV (b.drop (b.length - 4)) % 4294967296 = fixV (b.drop (b.length - 4)) := Nat.mod_eq_of_lt hf
  have hdv : (UInt64.ofNat (b.length - 4) / 4).toNat = (b.length - 4) / 4 := by
    rw [UInt64.toNat_div, u64_len (by omega)]; rfl
  have hmm : fixV (b.drop (b.length - 4)) % 4294967296 % 18446744073709551616 = fixV (b.drop (b.length - 4)) := by omega
  repeat' (first | with_reducible apply Stp.go | with_reducible refine imp fun _ => ?_ | (with_reducible refine hyp ?_ ?_; first | assumption | exact leftT_mem (by assumption)) | (with_reducible refine need ?_ ?_; first | trivial | omega | exact ⟨by assumption, by omega⟩ | (simp only [List.length_append, List.length_cons, List.length_nil, List.length_map, List.length_take, List.length_drop, List.length_replicate, List.length_set]; omega)) | (with_reducible refine fact ?_ ?_; first | trivial | exact ⟨rfl, rfl⟩ | kernel_rfl) | with_reducible refine choT (by assumption) ?_ | with_reducible refine choF (by assumption) ?_ | with_reducible refine choF' (by assumption) ?_ | (with_reducible refine altT ?_ ?_; first | omega | (simp only [List.length_append, List.length_cons, List.length_nil, List.length_map, List.length_take, List.length_drop, List.length_replicate, List.length_set]; omega)) | with_reducible refine altF ?_ | with_reducible refine all fun _ => ?_ | with_reducible refine both ?_ ?_ | (with_reducible refine choT ?_ ?_; omega) | (with_reducible refine choF ?_ ?_; omega) | with_reducible refine cho (fun _ => ?_) (fun _ => ?_))
  · rename_i h4
    exact blk_fail (by rw [blkG, if_pos h4])
  · rename_i h4 h5
    rw [hmm, hdv] at h5
    exact blk_fail (by rw [blkG, if_neg h4, if_pos h5])
  · rename_i h4 h5 h6
    rw [hmm, hdv] at h5
    rw [hfm] at h6 ⊢
    refine need (Nat.le_trans (hev _) (by decide)) ?_
    obtain ⟨l, hG⟩ : ∃ l, entsG (b.take (b.length - 4 - 4 * fixV (b.drop (b.length - 4)))) = some l := Option.isSome_iff_exists.1 h6
    have e : entsV (b.take (b.length - 4 - 4 * fixV (b.drop (b.length - 4)))) = l := by rw [entsV, hG]; rfl
    rw [e]
    have hB : blkG b = if fit l = true ∧ blockBytes l = b then some l else none := by rw [blkG, if_neg h4, if_neg h5, hG]
    by_cases hfit : fit l = true
    · have e1 : blkB l = blockBytes l := by rw [blkB, if_pos hfit]
      have e2 : blkE l = 0 := by rw [blkE, if_pos hfit]
      rw [e1, e2]
      repeat' (first | with_reducible apply Stp.go | with_reducible refine imp fun _ => ?_ | (with_reducible refine hyp ?_ ?_; first | assumption | exact leftT_mem (by assumption)) | (with_reducible refine need ?_ ?_; first | trivial | omega | exact ⟨by assumption, by omega⟩ | (simp only [List.length_append, List.length_cons, List.length_nil, List.length_map, List.length_take, List.length_drop, List.length_replicate, List.length_set]; omega)) | (with_reducible refine fact ?_ ?_; first | trivial | exact ⟨rfl, rfl⟩ | kernel_rfl) | with_reducible refine choT (by assumption) ?_ | with_reducible refine choF (by assumption) ?_ | with_reducible refine choF' (by assumption) ?_ | (with_reducible refine altT ?_ ?_; first | omega | (simp only [List.length_append, List.length_cons, List.length_nil, List.length_map, List.length_take, List.length_drop, List.length_replicate, List.length_set]; omega)) | with_reducible refine altF ?_ | with_reducible refine all fun _ => ?_ | with_reducible refine both ?_ ?_ | (with_reducible refine choT ?_ ?_; omega) | (with_reducible refine choF ?_ ?_; omega) | with_reducible refine cho (fun _ => ?_) (fun _ => ?_))
      · rename_i h7
        exact ⟨_, _, _, rfl, Sub.tuple (retLst (Sub.refl _ _)), by simp [blkV, blkX, hB, hfit, h7], rfl⟩
      · rename_i h7
        exact blk_fail (by rw [hB, if_neg fun h => h7 h.2])
    · have e2 : blkE l = 1 := by rw [blkE, if_neg hfit]
      rw [e2]
      repeat' (first | with_reducible apply Stp.go | with_reducible refine imp fun _ => ?_ | (with_reducible refine hyp ?_ ?_; first | assumption | exact leftT_mem (by assumption)) | (with_reducible refine need ?_ ?_; first | trivial | omega | exact ⟨by assumption, by omega⟩ | (simp only [List.length_append, List.length_cons, List.length_nil, List.length_map, List.length_take, List.length_drop, List.length_replicate, List.length_set]; omega)) | (with_reducible refine fact ?_ ?_; first | trivial | exact ⟨rfl, rfl⟩ | kernel_rfl) | with_reducible refine choT (by assumption) ?_ | with_reducible refine choF (by assumption) ?_ | with_reducible refine choF' (by assumption) ?_ | (with_reducible refine altT ?_ ?_; first | omega | (simp only [List.length_append, List.length_cons, List.length_nil, List.length_map, List.length_take, List.length_drop, List.length_replicate, List.length_set]; omega)) | with_reducible refine altF ?_ | with_reducible refine all fun _ => ?_ | with_reducible refine both ?_ ?_ | (with_reducible refine choT ?_ ?_; omega) | (with_reducible refine choF ?_ ?_; omega) | with_reducible refine cho (fun _ => ?_) (fun _ => ?_))
      exact blk_fail (by rw [hB, if_neg fun h => hfit h.1])
  · rename_i h4 h5 h6
    rw [hmm, hdv] at h5
    rw [hfm] at h6
    have hG : entsG (b.take (b.length - 4 - 4 * fixV (b.drop (b.length - 4)))) = none := by
      cases h : entsG (b.take (b.length - 4 - 4 * fixV (b.drop (b.length - 4)))) with
      | none => rfl
      | some l => rw [entsO, h] at h6; exact absurd rfl h6
    exact blk_fail (by rw [blkG, if_neg h4, if_neg h5, hG])
instance {l : List UInt8} : PC Go.Proofs.Try.prog 53 [S l] (l.length ≤ 1000000000) (.tuple [.lst 4 ((blkV l).map En.av) .ro, I .i64 (blkX l)]) := ⟨fun hl => PC.of (ref04_Parse_ok l hl)⟩
end Go.Ab

/- table.cut. -/
set_option linter.unusedVariables false
set_option linter.unusedSimpArgs false
namespace Go.Ab
/-- The blocks of a file, as its index cuts them. -/
def cutA : Nat → List UInt8 → List UInt8 → List (List UInt8) → Option (List (List UInt8))
  | 0, _, _, acc => some acc
  | n + 1, ix, rest, acc =>
    if textO ix = true ∧ getO (ix.drop (textN ix)) = true ∧ getV (ix.drop (textN ix)) ≤ rest.length then
      cutA n (ix.drop (textN ix + getN (ix.drop (textN ix)))) (rest.drop (getV (ix.drop (textN ix)))) (acc ++ [rest.take (getV (ix.drop (textN ix)))])
    else none
def cutN (b : List UInt8) : Nat := fixV (b.drop (b.length - 8))
def cutP (b : List UInt8) : Nat := fixV (b.drop (b.length - 8 + 4))
def cutG (b : List UInt8) : Option (List (List UInt8)) :=
  if b.length < 12 then none
  else if 64 < cutN b ∨ b.length - 8 < cutP b ∨ cutP b < 4 then none
  else cutA (cutN b) ((b.take (b.length - 8)).drop (cutP b)) ((b.take (cutP b)).drop 4) []
def cutV (b : List UInt8) : List (List UInt8) := (cutG b).getD []
def cutO (b : List UInt8) : Bool := (cutG b).isSome
theorem cutA_len : ∀ {n : Nat} {ix rest : List UInt8} {acc r : List (List UInt8)}, cutA n ix rest acc = some r → r.length = acc.length + n
  | 0, _, _, acc, r, h => by
    simp only [cutA, Option.some.injEq] at h
    rw [h]; rfl
  | n + 1, ix, rest, acc, r, h => by
    rw [cutA] at h
    split at h
    · have := cutA_len h
      simp only [List.length_append, List.length_cons, List.length_nil] at this
      omega
    · cases h
def table_cut.mark : Mark := ⟨fun t => Nat.beq t 27 || Nat.beq t 35 || Nat.beq t 63 || Nat.beq t 73, fun t => false, fun t => false, fun t => false, fun t => false⟩
def table_cut.ann : Ann := ⟨fun n => bif Nat.beq n 11 then [9, 10, 11, 58, 59] else [], fun n => none, fun n => none⟩
/-- 'marlstone/table.cut' -/
def table_cut.sh (a0 : AV) (σ : Store) (Q : AEnd → Store → Prop) : Prop :=
  Do (aBuiltin Go.Proofs.Try.prog .len #[25] [a0]) fun t18 =>
  Do (aBin Go.Proofs.Try.prog .lss 3 t18 (.val (.int .i64 12))) fun t19 =>
  aCond t19
    (Q (.ret (.tuple [(.val (.slice none 0 0)), (.val (.bool false))])) σ)
    (Do (aBuiltin Go.Proofs.Try.prog .len #[25] [a0]) fun t21 =>
  Do (aBin Go.Proofs.Try.prog .sub 3 t21 (.val (.int .i64 8))) fun t22 =>
  Do (aSlice .slice 1 a0 (some t22) none none) fun t26 =>
  Do (aPureC Go.Proofs.Try.prog 76 [t26]) fun t27 =>
  Do (aExt t27 0) fun t28 =>
  Do (aExt t27 1) fun t29 =>
  Do (aBin Go.Proofs.Try.prog .add 3 t22 (.val (.int .i64 4))) fun t33 =>
  Do (aSlice .slice 1 a0 (some t33) none none) fun t34 =>
  Do (aPureC Go.Proofs.Try.prog 76 [t34]) fun t35 =>
  Do (aExt t35 0) fun t36 =>
  Do (aExt t35 1) fun t37 =>
  Do (aBin Go.Proofs.Try.prog .gtr 73 t28 (W32 64)) fun t39 =>
  Do (aGuard t39 false (aIs t36)) fun t41 =>
  Do (aGuard t39 false (fun x => aConvN 73 2 t41 x Go.Proofs.Try.prog)) fun t42 =>
  Do (aGuard t39 false (aIs t22)) fun t43 =>
  Do (aGuard t39 false (aBin Go.Proofs.Try.prog .gtr 2 t42 t43)) fun t44 =>
  Do (aPick t39 (.val (.bool true)) t44) fun t45 =>
  Do (aGuard t45 false (aIs t36)) fun t47 =>
  Do (aGuard t45 false (fun x => aConvN 73 3 t47 x Go.Proofs.Try.prog)) fun t48 =>
  Do (aGuard t45 false (aBin Go.Proofs.Try.prog .lss 3 t48 (.val (.int .i64 4)))) fun t49 =>
  Do (aPick t45 (.val (.bool true)) t49) fun t50 =>
  aCond t50
    (Q (.ret (.tuple [(.val (.slice none 0 0)), (.val (.bool false))])) σ)
    (Do (aSlice .slice 1 a0 (some t36) (some t22) none) fun t54 =>
  Do (aSlice .slice 1 a0 (some (.val (.int .i64 4))) (some t36) none) fun t57 =>
  aLoop (fun go vs σ =>
    At vs 0 fun s9 => At vs 1 fun s10 => At vs 2 fun s11 => At vs 3 fun s58 => At vs 4 fun s59 => Do (aBin Go.Proofs.Try.prog .lss 73 s59 s58) fun t60 =>
    aCond t60
      (Do (aPureC Go.Proofs.Try.prog 77 [s9]) fun t63 =>
    Do (aExt t63 0) fun t64 =>
    Do (aExt t63 1) fun t65 =>
    Do (aExt t63 2) fun t66 =>
    Do (aUn Go.Proofs.Try.prog .not t66) fun t68 =>
    aCond t68
      (Q (.ret (.tuple [(.val (.slice none 0 0)), (.val (.bool false))])) σ)
      (Do (aSlice .slice 1 s9 (some t65) none none) fun t72 =>
    Do (aPureC Go.Proofs.Try.prog 78 [t72]) fun t73 =>
    Do (aExt t73 0) fun t74 =>
    Do (aExt t73 1) fun t75 =>
    Do (aExt t73 2) fun t76 =>
    Do (aUn Go.Proofs.Try.prog .not t76) fun t78 =>
    Do (aGuard t78 false (aIs t74)) fun t80 =>
    Do (aGuard t78 false (aIs s10)) fun t81 =>
    Do (aGuard t78 false (aBuiltin Go.Proofs.Try.prog .len #[25] [t81])) fun t82 =>
    Do (aGuard t78 false (fun x => aConvN 3 71 t82 x Go.Proofs.Try.prog)) fun t83 =>
    Do (aGuard t78 false (aBin Go.Proofs.Try.prog .gtr 71 t80 t83)) fun t84 =>
    Do (aPick t78 (.val (.bool true)) t84) fun t85 =>
    aCond t85
      (Q (.ret (.tuple [(.val (.slice none 0 0)), (.val (.bool false))])) σ)
      (Do (aSlice .slice 1 s10 none (some t74) none) fun t89 =>
    Do (aSlLit (mkE [.val (.slice none 0 0)]) 1 1 [(0, t89)]) fun t90 =>
    aAppend 25 1 24 s11 t90 σ (subK fun t91 σ_1 =>
    Do (aBin Go.Proofs.Try.prog .add 3 t65 t75) fun t95 =>
    Do (aSlice .slice 1 s9 (some t95) none none) fun t96 =>
    Do (aSlice .slice 1 s10 (some t74) none none) fun t99 =>
    Do (aBin Go.Proofs.Try.prog .add 73 s59 (W32 1)) fun t100 =>
    go [t96, t99, t91, s58, t100] σ_1))))
      (Q (.ret (.tuple [s11, (.val (.bool true))])) σ))
    [t54, t57, (.val (.slice none 0 0)), t28, (W32 0)] σ))
theorem table_cut.eq (a0 : AV) (σ : Store) (Q : AEnd → Store → Prop) : vc (semOf Go.Proofs.Try.prog table_cut.mark) Go.Proofs.Try.f47.ntmps table_cut.ann (bodyOf Go.Proofs.Try.f47) (endK [.tmp 2, .tmp 3] Q) (argFr [a0]) σ = table_cut.sh a0 σ Q := by kernel_rfl
theorem table_cut.go {a0 : AV} {σ : Store} {Q : AEnd → Store → Prop} (h : table_cut.sh a0 σ Q) : ACalls Go.Proofs.Try.prog 47 [a0] σ Q :=
  acalls_of_eq [.tmp 2, .tmp 3] Go.Proofs.Try.func47 (by kernel_rfl) (by kernel_rfl) (by kernel_rfl) (by kernel_rfl) (table_cut.eq a0 σ Q) h
theorem cut_fail {b : List UInt8} {σ : Store} (h : cutG b = none) : ∃ u u1 τ, AEnd.ret (.tuple [.val (.slice none 0 0), B false]) = .ret u ∧ Sub σ [u] τ [u1] ∧ AEnd.ret u1 = .ret (.tuple [.lst 1 ((cutV b).map bl) .ro, B (cutO b)]) ∧ τ = [] :=
  ⟨_, _, _, rfl, Sub.tuple (retNil bl (sz := 1) (by decide) (Sub.app_nil _)), by simp [cutV, cutO, h], rfl⟩
theorem tcut_ok (b : List UInt8) (m : SM) (hl : b.length ≤ 1000000000) : aPure Go.Proofs.Try.prog 47 [.lst 1 (b.map byt) m] (.tuple [.lst 1 ((cutV b).map bl) .ro, B (cutO b)]) := by
  refine ACalls.fin (table_cut.go ?_)
  unfold table_cut.sh
  by_cases h12 : b.length < 12
  · repeat' (first | with_reducible apply Stp.go | with_reducible refine imp fun _ => ?_ | (with_reducible refine hyp ?_ ?_; first | assumption | exact leftT_mem (by assumption)) | (with_reducible refine need ?_ ?_; first | trivial | omega | exact ⟨by assumption, by omega⟩ | (simp only [List.length_append, List.length_cons, List.length_nil, List.length_map, List.length_take, List.length_drop, List.length_replicate, List.length_set]; omega)) | (with_reducible refine fact ?_ ?_; first | trivial | exact ⟨rfl, rfl⟩ | kernel_rfl) | with_reducible refine choT (by assumption) ?_ | with_reducible refine choF (by assumption) ?_ | with_reducible refine choF' (by assumption) ?_ | (with_reducible refine altT ?_ ?_; first | omega | (simp only [List.length_append, List.length_cons, List.length_nil, List.length_map, List.length_take, List.length_drop, List.length_replicate, List.length_set]; omega)) | with_reducible refine altF ?_ | with_reducible refine all fun _ => ?_ | with_reducible refine both ?_ ?_ | (with_reducible refine choT ?_ ?_; omega) | (with_reducible refine choF ?_ ?_; omega) | with_reducible refine cho (fun _ => ?_) (fun _ => ?_))
    exact cut_fail (by rw [cutG, if_pos h12])
  · have hn := fixV_lt (b.drop (b.length - 8))
    have hp := fixV_lt (b.drop (b.length - 8 + 4))
    obtain ⟨w, hw0⟩ : ∃ w : UInt32, UInt32.ofNat (fixV (b.drop (b.length - 8))) = w := ⟨_, rfl⟩
    obtain ⟨z, hz0⟩ : ∃ z : UInt32, UInt32.ofNat (fixV (b.drop (b.length - 8 + 4))) = z := ⟨_, rfl⟩
    have hw : cutN b = w.toNat := by rw [← hw0]; exact (Nat.mod_eq_of_lt hn).symm
    have hz : cutP b = z.toNat := by rw [← hz0]; exact (Nat.mod_eq_of_lt hp).symm
    have iN : PC Go.Proofs.Try.prog 76 [.lst 1 ((b.drop (b.length - 8)).map byt) .ro] True (.tuple [W32 w, B (decide (4 ≤ (b.drop (b.length - 8)).length))]) := ⟨fun _ => by
      have := PC.of (codec_Fixed_ok (b.drop (b.length - 8)) .ro (by simp only [List.length_drop]; omega))
      rw [hw0] at this
      exact this⟩
    have iZ : PC Go.Proofs.Try.prog 76 [.lst 1 ((b.drop (b.length - 8 + 4)).map byt) .ro] True (.tuple [W32 z, B (decide (4 ≤ (b.drop (b.length - 8 + 4)).length))]) := ⟨fun _ => by
      have := PC.of (codec_Fixed_ok (b.drop (b.length - 8 + 4)) .ro (by simp only [List.length_drop]; omega))
      rw [hz0] at this
      exact this⟩
    have hG : cutG b = if 64 < w.toNat ∨ b.length - 8 < z.toNat ∨ z.toNat < 4 then none else cutA w.toNat ((b.take (b.length - 8)).drop z.toNat) ((b.take z.toNat).drop 4) [] := by rw [cutG, if_neg h12, hw, hz]
    clear hw0 hz0 hw hz hn hp
    have hzb := UInt32.toNat_lt z
    have hwb := UInt32.toNat_lt w
    by_cases hc : 64 < w.toNat ∨ b.length - 8 < z.toNat ∨ z.toNat < 4
    · rw [if_pos hc] at hG
      repeat' (first | with_reducible apply Stp.go | with_reducible refine imp fun _ => ?_ | (with_reducible refine hyp ?_ ?_; first | assumption | exact leftT_mem (by assumption)) | (with_reducible refine need ?_ ?_; first | trivial | omega | exact ⟨by assumption, by omega⟩ | (simp only [List.length_append, List.length_cons, List.length_nil, List.length_map, List.length_take, List.length_drop, List.length_replicate, List.length_set]; omega)) | (with_reducible refine fact ?_ ?_; first | trivial | exact ⟨rfl, rfl⟩ | kernel_rfl) | with_reducible refine choT (by assumption) ?_ | with_reducible refine choF (by assumption) ?_ | with_reducible refine choF' (by assumption) ?_ | (with_reducible refine altT ?_ ?_; first | omega | (simp only [List.length_append, List.length_cons, List.length_nil, List.length_map, List.length_take, List.length_drop, List.length_replicate, List.length_set]; omega)) | with_reducible refine altF ?_ | with_reducible refine all fun _ => ?_ | with_reducible refine both ?_ ?_ | (with_reducible refine choT ?_ ?_; omega) | (with_reducible refine choF ?_ ?_; omega) | with_reducible refine cho (fun _ => ?_) (fun _ => ?_))
      all_goals first
        | exact cut_fail hG
        | (exfalso; omega)
        | trace_state
    · rw [if_neg hc] at hG
      repeat' (first | with_reducible apply Stp.go | with_reducible refine imp fun _ => ?_ | (with_reducible refine hyp ?_ ?_; first | assumption | exact leftT_mem (by assumption)) | (with_reducible refine need ?_ ?_; first | trivial | omega | exact ⟨by assumption, by omega⟩ | (simp only [List.length_append, List.length_cons, List.length_nil, List.length_map, List.length_take, List.length_drop, List.length_replicate, List.length_set]; omega)) | (with_reducible refine fact ?_ ?_; first | trivial | exact ⟨rfl, rfl⟩ | kernel_rfl) | with_reducible refine choT (by assumption) ?_ | with_reducible refine choF (by assumption) ?_ | with_reducible refine choF' (by assumption) ?_ | (with_reducible refine altT ?_ ?_; first | omega | (simp only [List.length_append, List.length_cons, List.length_nil, List.length_map, List.length_take, List.length_drop, List.length_replicate, List.length_set]; omega)) | with_reducible refine altF ?_ | with_reducible refine all fun _ => ?_ | with_reducible refine both ?_ ?_ | (with_reducible refine choT ?_ ?_; omega) | (with_reducible refine choF ?_ ?_; omega) | with_reducible refine cho (fun _ => ?_) (fun _ => ?_))
      all_goals first
        | (exfalso; omega)
        | skip
      refine loopI (β := Nat × List UInt8 × List UInt8 × Value × List (List UInt8)) (fun x => x.1 ≤ w.toNat ∧ x.2.2.2.2.length = x.1 ∧ x.2.1.length ≤ b.length ∧ x.2.2.1.length ≤ b.length ∧ cutA (w.toNat - x.1) x.2.1 x.2.2.1 x.2.2.2.2 = cutG b)
        (fun x => [.lst 1 (x.2.1.map byt) .ro, .lst 1 (x.2.2.1.map byt) .ro, .own x.2.2.2.1 x.2.2.2.2.length, W32 w, W32 (UInt32.ofNat x.1)]) (fun x => [.row x.2.2.2.1 LfT 1 (x.2.2.2.2.map bl) 0]) (fun x => w.toNat - x.1) (0, (b.take (b.length - 8)).drop z.toNat, (b.take z.toNat).drop 4, .slice none 0 0, []) ⟨Nat.zero_le _, rfl, by simp only [List.length_drop, List.length_take]; omega, by simp only [List.length_drop, List.length_take]; omega, hG.symm⟩ (Sub.nil_own LfT (by decide) _ [_, _] [_, _]) ?_
      rintro ⟨j, ix, rest, v, acc⟩ ⟨h1, h2, h3, h4, h5⟩
      dsimp only at h1 h2 h3 h4 h5 ⊢
      have hj : (UInt32.ofNat j).toNat = j := Nat.mod_eq_of_lt (by omega)
      by_cases hlt : j < w.toNat
      · rw [show w.toNat - j = (w.toNat - (j + 1)) + 1 by omega, cutA] at h5
        have hgb := get_bound (s := ix.drop (textN ix))
        have htb := text_bound (s := ix)
        obtain ⟨g, hg0⟩ : ∃ g : UInt64, UInt64.ofNat (getV (ix.drop (textN ix))) = g := ⟨_, rfl⟩
        have hg : getV (ix.drop (textN ix)) = g.toNat := by rw [← hg0]; exact (Nat.mod_eq_of_lt hgb.1).symm
        have iT : PC Go.Proofs.Try.prog 78 [.lst 1 ((ix.drop (textN ix)).map byt) .ro] True (.tuple [W64 g, I .i64 (getN (ix.drop (textN ix)) : Nat), B (getO (ix.drop (textN ix)))]) := ⟨fun _ => by
          have := PC.of (codec_Get_ok (ix.drop (textN ix)) .ro (by simp only [List.length_drop]; omega))
          rw [hg0] at this
          exact this⟩
        rw [hg] at h5 hgb
        clear hg hg0
        have hsum : textN ix + getN (ix.drop (textN ix)) ≤ ix.length := by have := hgb.2.2.1; simp only [List.length_drop] at this; omega
        have hfail : ¬ (textO ix = true ∧ getO (ix.drop (textN ix)) = true ∧ g.toNat ≤ rest.length) → cutG b = none := fun h => by rw [if_neg h] at h5; exact h5.symm
        repeat' (first | with_reducible apply Stp.go | with_reducible refine imp fun _ => ?_ | (with_reducible refine hyp ?_ ?_; first | assumption | exact leftT_mem (by assumption)) | (with_reducible refine need ?_ ?_; first | trivial | omega | exact ⟨by assumption, by omega⟩ | (simp only [List.length_append, List.length_cons, List.length_nil, List.length_map, List.length_take, List.length_drop, List.length_replicate, List.length_set]; omega)) | (with_reducible refine fact ?_ ?_; first | trivial | exact ⟨rfl, rfl⟩ | kernel_rfl) | with_reducible refine choT (by assumption) ?_ | with_reducible refine choF (by assumption) ?_ | with_reducible refine choF' (by assumption) ?_ | (with_reducible refine altT ?_ ?_; first | omega | (simp only [List.length_append, List.length_cons, List.length_nil, List.length_map, List.length_take, List.length_drop, List.length_replicate, List.length_set]; omega)) | with_reducible refine altF ?_ | with_reducible refine all fun _ => ?_ | with_reducible refine both ?_ ?_ | (with_reducible refine choT ?_ ?_; omega) | (with_reducible refine choF ?_ ?_; omega) | with_reducible refine cho (fun _ => ?_) (fun _ => ?_))
        all_goals first
          | (refine cut_fail (hfail fun h => ?_)
             simp_all
             done)
          | (refine cut_fail (hfail fun h => ?_)
             omega)
          | (rename_i xv
             have hpos : textO ix = true ∧ getO (ix.drop (textN ix)) = true ∧ g.toNat ≤ rest.length := by
               refine ⟨?_, ?_, ?_⟩ <;> first | assumption | omega | simp_all
             rw [if_pos hpos] at h5
             refine again (j + 1, ix.drop (textN ix + getN (ix.drop (textN ix))), rest.drop g.toNat, xv, acc ++ [rest.take g.toNat]) (by dsimp only; omega) ⟨by dsimp only; omega, by dsimp only; simp only [List.length_append, List.length_cons, List.length_nil]; omega, by dsimp only; simp only [List.length_drop]; omega, by dsimp only; simp only [List.length_drop]; omega, h5⟩ ?_
             dsimp only
             rw [show UInt32.ofNat (j + 1) = UInt32.ofNat j + 1 from UInt32.ofNat_add j 1]
             exact Sub.refl _ _)
          | trace_state
      · have e : j = w.toNat := by omega
        rw [e, Nat.sub_self, cutA] at h5
        repeat' (first | with_reducible apply Stp.go | with_reducible refine imp fun _ => ?_ | (with_reducible refine hyp ?_ ?_; first | assumption | exact leftT_mem (by assumption)) | (with_reducible refine need ?_ ?_; first | trivial | omega | exact ⟨by assumption, by omega⟩ | (simp only [List.length_append, List.length_cons, List.length_nil, List.length_map, List.length_take, List.length_drop, List.length_replicate, List.length_set]; omega)) | (with_reducible refine fact ?_ ?_; first | trivial | exact ⟨rfl, rfl⟩ | kernel_rfl) | with_reducible refine choT (by assumption) ?_ | with_reducible refine choF (by assumption) ?_ | with_reducible refine choF' (by assumption) ?_ | (with_reducible refine altT ?_ ?_; first | omega | (simp only [List.length_append, List.length_cons, List.length_nil, List.length_map, List.length_take, List.length_drop, List.length_replicate, List.length_set]; omega)) | with_reducible refine altF ?_ | with_reducible refine all fun _ => ?_ | with_reducible refine both ?_ ?_ | (with_reducible refine choT ?_ ?_; omega) | (with_reducible refine choF ?_ ?_; omega) | with_reducible refine cho (fun _ => ?_) (fun _ => ?_))
        exact ⟨_, _, _, rfl, Sub.tuple (retOwn (Sub.refl _ _)), by simp [cutV, cutO, ← h5], rfl⟩
end Go.Ab

/- The law BlockOnce: what its function does. -/
set_option linter.unusedVariables false
set_option linter.unusedSimpArgs false
namespace Go.Ab
theorem blkG_fit {b : List UInt8} {l : List En} (h : blkG b = some l) : fit l = true ∧ blockBytes l = b := by
  unfold blkG at h
  split at h
  · cases h
  · split at h
    · cases h
    · split at h
      · cases h
      · split at h
        · rename_i hc; cases h; exact hc
        · cases h
end Go.Ab

/- table.Parse; TableOnce. -/
set_option linter.unusedVariables false
set_option linter.unusedSimpArgs false
namespace Go.Ab
theorem cutA_mem : ∀ {n : Nat} {ix rest : List UInt8} {acc r : List (List UInt8)} {k : Nat}, cutA n ix rest acc = some r → rest.length ≤ k → (∀ x ∈ acc, x.length ≤ k) → ∀ x ∈ r, x.length ≤ k
  | 0, _, _, acc, r, k, h, _, ha => by
    simp only [cutA, Option.some.injEq] at h
    rw [← h]; exact ha
  | n + 1, ix, rest, acc, r, k, h, hr, ha => by
    rw [cutA] at h
    split at h
    · refine cutA_mem h (by simp only [List.length_drop]; omega) fun x hx => ?_
      rcases List.mem_append.1 hx with hx | hx
      · exact ha x hx
      · rw [List.mem_singleton.1 hx]; simp only [List.length_take]; omega
    · cases h
theorem cut_bound {b : List UInt8} {r : List (List UInt8)} (h : cutG b = some r) : r.length ≤ 64 ∧ ∀ x ∈ r, x.length ≤ b.length := by
  unfold cutG at h
  split at h
  · cases h
  · split at h
    · cases h
    · have h1 := cutA_len h
      refine ⟨by simp only [List.length_nil] at h1; omega, cutA_mem h (by simp only [List.length_drop, List.length_take]; omega) (by simp)⟩
/-- The entries of blocks. -/
def partsG : List (List UInt8) → List En → Option (List En)
  | [], acc => some acc
  | x :: xs, acc => match blkG x with
    | none => none
    | some p => partsG xs (acc ++ p)
/-- The entries of a file. -/
def tblG (b : List UInt8) : Option (List En) := match cutG b with
  | none => none
  | some bs => match partsG bs [] with
    | none => none
    | some l => if fit l = true ∧ tbB l = b then some l else none
def tblV (b : List UInt8) : List En := (tblG b).getD []
def tblX (b : List UInt8) : Int := if (tblG b).isSome = true then 0 else 2
theorem tblG_fit {b : List UInt8} {l : List En} (h : tblG b = some l) : fit l = true ∧ tbB l = b := by
  unfold tblG at h
  split at h
  · cases h
  · split at h
    · cases h
    · split at h
      · rename_i hc
        cases h
        exact hc
      · cases h
theorem blkG_len {b : List UInt8} {l : List En} (h : blkG b = some l) : l.length ≤ 64 := (fit_right (blkG_fit h).1).1
def table_Parse.mark : Mark := ⟨fun t => Nat.beq t 15 || Nat.beq t 28 || Nat.beq t 47, fun t => false, fun t => false, fun t => Nat.beq t 25, fun t => false⟩
def table_Parse.ann : Ann := ⟨fun n => bif Nat.beq n 6 then [0, 6, 20, 21, 22] else [], fun n => none, fun n => none⟩
/-- 'marlstone/table.Parse' -/
def table_Parse.sh (a0 : AV) (σ : Store) (Q : AEnd → Store → Prop) : Prop :=
  Do (aPureC Go.Proofs.Try.prog 47 [a0]) fun t15 =>
  Do (aExt t15 0) fun t16 =>
  Do (aExt t15 1) fun t17 =>
  Do (aUn Go.Proofs.Try.prog .not t17) fun t19 =>
  aCond t19
    (Q (.ret (.tuple [(.val (.slice none 0 0)), (.val (.int .i64 2))])) σ)
    (Do (aBuiltin Go.Proofs.Try.prog .len #[40] [t16]) fun t21 =>
  aLoop (fun go vs σ =>
    At vs 0 fun s0 => At vs 1 fun s6 => At vs 2 fun s20 => At vs 3 fun s21 => At vs 4 fun s22 => Do (aBin Go.Proofs.Try.prog .lss 3 s22 s21) fun t23 =>
    aCond t23
      (Do (aIndexAddr .slice 1 s20 s22) fun t24 =>
    Do (loadF false 1 t24) fun t25 =>
    Do (aPureC Go.Proofs.Try.prog 48 [t25]) fun t28 =>
    Do (aExt t28 0) fun t29 =>
    Do (aExt t28 1) fun t30 =>
    Do (aBin Go.Proofs.Try.prog .neq 26 t30 (.val (.int .i64 0))) fun t32 =>
    aCond t32
      (Q (.ret (.tuple [(.val (.slice none 0 0)), (.val (.int .i64 2))])) σ)
      (aAppend 52 4 48 s6 t29 σ (subK fun t35 σ_1 =>
    Do (aBin Go.Proofs.Try.prog .add 3 s22 (.val (.int .i64 1))) fun t36 =>
    go [s0, t35, s20, s21, t36] σ_1)))
      (aCall Go.Proofs.Try.prog 13 [s6] σ (fun t39 σ_2 =>
  Do (aExt t39 0) fun t40 =>
  Do (aExt t39 1) fun t41 =>
  Do (aBin Go.Proofs.Try.prog .neq 26 t41 (.val (.int .i64 0))) fun t43 =>
  Do (aGuard t43 false (aIs t40)) fun t45 =>
  Do (aGuard t43 false (aIs s0)) fun t46 =>
  Do (aGuard t43 false (aPureC Go.Proofs.Try.prog 49 [t45, t46])) fun t47 =>
  Do (aGuard t43 false (aUn Go.Proofs.Try.prog .not t47)) fun t48 =>
  Do (aPick t43 (.val (.bool true)) t48) fun t49 =>
  aCond t49
    (Q (.ret (.tuple [(.val (.slice none 0 0)), (.val (.int .i64 2))])) σ_2)
    (Q (.ret (.tuple [s6, (.val (.int .i64 0))])) σ_2)) (fun e σ_3 => Q (.pan e) σ_3)))
    [a0, (.val (.slice none 0 0)), t16, t21, (.val (.int .i64 0))] σ)
theorem table_Parse.eq (a0 : AV) (σ : Store) (Q : AEnd → Store → Prop) : vc (semOf Go.Proofs.Try.prog table_Parse.mark) Go.Proofs.Try.f21.ntmps table_Parse.ann (bodyOf Go.Proofs.Try.f21) (endK [.tmp 2, .tmp 3] Q) (argFr [a0]) σ = table_Parse.sh a0 σ Q := by kernel_rfl
theorem table_Parse.go {a0 : AV} {σ : Store} {Q : AEnd → Store → Prop} (h : table_Parse.sh a0 σ Q) : ACalls Go.Proofs.Try.prog 21 [a0] σ Q :=
  acalls_of_eq [.tmp 2, .tmp 3] Go.Proofs.Try.func21 (by kernel_rfl) (by kernel_rfl) (by kernel_rfl) (by kernel_rfl) (table_Parse.eq a0 σ Q) h
theorem tbl_fail {b : List UInt8} {σ : Store} (h : tblG b = none) : ∃ u u1 τ, AEnd.ret (.tuple [.val (.slice none 0 0), I .i64 2]) = .ret u ∧ Sub σ [u] τ [u1] ∧ AEnd.ret u1 = .ret (.tuple [.lst 4 ((tblV b).map En.av) .ro, I .i64 (tblX b)]) ∧ τ = [] :=
  ⟨_, _, _, rfl, Sub.tuple (retNil En.av (sz := 4) (by decide) (Sub.app_nil _)), by simp [tblV, tblX, h], rfl⟩
theorem tParse_ok (b : List UInt8) (m : SM) (hl : b.length ≤ 1000000000) : aPure Go.Proofs.Try.prog 21 [.lst 1 (b.map byt) m] (.tuple [.lst 4 ((tblV b).map En.av) .ro, I .i64 (tblX b)]) := by
  refine ACalls.fin (table_Parse.go ?_)
  unfold table_Parse.sh
  cases hG : cutG b with
  | none =>
    have iC : PC Go.Proofs.Try.prog 47 [.lst 1 (b.map byt) m] True (.tuple [.lst 1 (([] : List (List UInt8)).map bl) .ro, B false]) := ⟨fun _ => by
      have := PC.of (tcut_ok b m hl)
      rw [cutV, cutO, hG] at this
      exact this⟩
    repeat' (first | with_reducible apply Stp.go | with_reducible refine imp fun _ => ?_ | (with_reducible refine hyp ?_ ?_; first | assumption | exact leftT_mem (by assumption)) | (with_reducible refine need ?_ ?_; first | trivial | omega | exact ⟨by assumption, by omega⟩ | (simp only [List.length_append, List.length_cons, List.length_nil, List.length_map, List.length_take, List.length_drop, List.length_replicate, List.length_set]; omega)) | (with_reducible refine fact ?_ ?_; first | trivial | exact ⟨rfl, rfl⟩ | kernel_rfl) | with_reducible refine choT (by assumption) ?_ | with_reducible refine choF (by assumption) ?_ | with_reducible refine choF' (by assumption) ?_ | (with_reducible refine altT ?_ ?_; first | omega | (simp only [List.length_append, List.length_cons, List.length_nil, List.length_map, List.length_take, List.length_drop, List.length_replicate, List.length_set]; omega)) | with_reducible refine altF ?_ | with_reducible refine all fun _ => ?_ | with_reducible refine both ?_ ?_ | (with_reducible refine choT ?_ ?_; omega) | (with_reducible refine choF ?_ ?_; omega) | with_reducible refine cho (fun _ => ?_) (fun _ => ?_))
    all_goals first
      | contradiction
      | exact tbl_fail (by rw [tblG, hG])
      | trace_state
  | some bs =>
    have iC : PC Go.Proofs.Try.prog 47 [.lst 1 (b.map byt) m] True (.tuple [.lst 1 (bs.map bl) .ro, B true]) := ⟨fun _ => by
      have := PC.of (tcut_ok b m hl)
      rw [cutV, cutO, hG] at this
      exact this⟩
    obtain ⟨h64, hlen⟩ := cut_bound hG
    have hT : tblG b = match partsG bs [] with | none => none | some l => if fit l = true ∧ tbB l = b then some l else none := by rw [tblG, hG]
    repeat' (first | with_reducible apply Stp.go | with_reducible refine imp fun _ => ?_ | (with_reducible refine hyp ?_ ?_; first | assumption | exact leftT_mem (by assumption)) | (with_reducible refine need ?_ ?_; first | trivial | omega | exact ⟨by assumption, by omega⟩ | (simp only [List.length_append, List.length_cons, List.length_nil, List.length_map, List.length_take, List.length_drop, List.length_replicate, List.length_set]; omega)) | (with_reducible refine fact ?_ ?_; first | trivial | exact ⟨rfl, rfl⟩ | kernel_rfl) | with_reducible refine choT (by assumption) ?_ | with_reducible refine choF (by assumption) ?_ | with_reducible refine choF' (by assumption) ?_ | (with_reducible refine altT ?_ ?_; first | omega | (simp only [List.length_append, List.length_cons, List.length_nil, List.length_map, List.length_take, List.length_drop, List.length_replicate, List.length_set]; omega)) | with_reducible refine altF ?_ | with_reducible refine all fun _ => ?_ | with_reducible refine both ?_ ?_ | (with_reducible refine choT ?_ ?_; omega) | (with_reducible refine choF ?_ ?_; omega) | with_reducible refine cho (fun _ => ?_) (fun _ => ?_))
    all_goals first
      | contradiction
      | (rename_i h; exact absurd rfl h)
      | skip
    refine loopI (β := Nat × Value × List En) (fun x => x.1 ≤ bs.length ∧ x.2.2.length ≤ 65 * x.1 ∧ partsG (bs.drop x.1) x.2.2 = partsG bs []) (fun x => [.lst 1 (b.map byt) m, .own x.2.1 x.2.2.length, .lst 1 (bs.map bl) .ro, I .i64 (bs.length : Nat), I .i64 (x.1 : Nat)])
      (fun x => [.row x.2.1 52 4 (x.2.2.map En.av) 0]) (fun x => bs.length - x.1) (0, .slice none 0 0, []) ⟨Nat.zero_le _, by simp, rfl⟩ (Sub.nil_own 52 (by decide) _ [_] [_, _, _]) ?_
    rintro ⟨i, v, acc⟩ ⟨hi, ha, hp⟩
    dsimp only at hi ha hp ⊢
    by_cases hlt : i < bs.length
    · have hx : (bs.getD i default).length ≤ 1000000000 := by
        have := hlen (bs.getD i default) (by rw [List.getD_eq_getElem?_getD, List.getElem?_eq_getElem hlt]; exact List.getElem_mem _)
        omega
      rw [drop_cons_d hlt, partsG] at hp
      cases hb : blkG (bs.getD i default) with
      | none =>
        have iP : PC Go.Proofs.Try.prog 48 [.lst 1 ((bs.getD i default).map byt) .ro] True (.tuple [.lst 4 (([] : List En).map En.av) .ro, .val (.int .i64 2)]) := ⟨fun _ => by
          have := PC.of (block_Parse_ok (bs.getD i default) .ro hx)
          rw [blkV, blkX, hb] at this
          exact this⟩
        rw [hb] at hp
        repeat' (first | with_reducible apply Stp.go | with_reducible refine imp fun _ => ?_ | (with_reducible refine hyp ?_ ?_; first | assumption | exact leftT_mem (by assumption)) | (with_reducible refine need ?_ ?_; first | trivial | omega | exact ⟨by assumption, by omega⟩ | (simp only [List.length_append, List.length_cons, List.length_nil, List.length_map, List.length_take, List.length_drop, List.length_replicate, List.length_set]; omega)) | (with_reducible refine fact ?_ ?_; first | trivial | exact ⟨rfl, rfl⟩ | kernel_rfl) | with_reducible refine choT (by assumption) ?_ | with_reducible refine choF (by assumption) ?_ | with_reducible refine choF' (by assumption) ?_ | (with_reducible refine altT ?_ ?_; first | omega | (simp only [List.length_append, List.length_cons, List.length_nil, List.length_map, List.length_take, List.length_drop, List.length_replicate, List.length_set]; omega)) | with_reducible refine altF ?_ | with_reducible refine all fun _ => ?_ | with_reducible refine both ?_ ?_ | (with_reducible refine choT ?_ ?_; omega) | (with_reducible refine choF ?_ ?_; omega) | with_reducible refine cho (fun _ => ?_) (fun _ => ?_))
        exact tbl_fail (by rw [hT, ← hp])
      | some p =>
        have iP : PC Go.Proofs.Try.prog 48 [.lst 1 ((bs.getD i default).map byt) .ro] True (.tuple [.lst 4 (p.map En.av) .ro, .val (.int .i64 0)]) := ⟨fun _ => by
          have := PC.of (block_Parse_ok (bs.getD i default) .ro hx)
          rw [blkV, blkX, hb] at this
          exact this⟩
        rw [hb] at hp
        have hpl := blkG_len hb
        repeat' (first | with_reducible apply Stp.go | with_reducible refine imp fun _ => ?_ | (with_reducible refine hyp ?_ ?_; first | assumption | exact leftT_mem (by assumption)) | (with_reducible refine need ?_ ?_; first | trivial | omega | exact ⟨by assumption, by omega⟩ | (simp only [List.length_append, List.length_cons, List.length_nil, List.length_map, List.length_take, List.length_drop, List.length_replicate, List.length_set]; omega)) | (with_reducible refine fact ?_ ?_; first | trivial | exact ⟨rfl, rfl⟩ | kernel_rfl) | with_reducible refine choT (by assumption) ?_ | with_reducible refine choF (by assumption) ?_ | with_reducible refine choF' (by assumption) ?_ | (with_reducible refine altT ?_ ?_; first | omega | (simp only [List.length_append, List.length_cons, List.length_nil, List.length_map, List.length_take, List.length_drop, List.length_replicate, List.length_set]; omega)) | with_reducible refine altF ?_ | with_reducible refine all fun _ => ?_ | with_reducible refine both ?_ ?_ | (with_reducible refine choT ?_ ?_; omega) | (with_reducible refine choF ?_ ?_; omega) | with_reducible refine cho (fun _ => ?_) (fun _ => ?_))
        rename_i w
        refine again (i + 1, w, acc ++ p) (by dsimp only; omega) ⟨by dsimp only; omega, by dsimp only; rw [List.length_append]; omega, hp⟩ ?_
        dsimp only
        exact Sub.refl _ _
    · have e : i = bs.length := by omega
      subst e
      rw [List.drop_length, partsG] at hp
      rw [← hp] at hT
      have hT : tblG b = if fit acc = true ∧ tbB acc = b then some acc else none := hT
      by_cases hf : fit acc = true
      · have iB : BC Go.Proofs.Try.prog 13 [.lst 4 (acc.map En.av) .ro] True (.tuple [.lst 1 ((tbB acc).map byt) .ro, .val (.int .i64 0)]) := ⟨fun _ => by
          have := (tBytesB (l := acc) (m := .ro)).ct (by omega)
          rw [tbE, if_pos hf] at this
          exact this⟩
        have hTb := tbB_len acc
        repeat' (first | with_reducible apply Stp.go | with_reducible refine imp fun _ => ?_ | (with_reducible refine hyp ?_ ?_; first | assumption | exact leftT_mem (by assumption)) | (with_reducible refine need ?_ ?_; first | trivial | omega | exact ⟨by assumption, by omega⟩ | (simp only [List.length_append, List.length_cons, List.length_nil, List.length_map, List.length_take, List.length_drop, List.length_replicate, List.length_set]; omega)) | (with_reducible refine fact ?_ ?_; first | trivial | exact ⟨rfl, rfl⟩ | kernel_rfl) | with_reducible refine choT (by assumption) ?_ | with_reducible refine choF (by assumption) ?_ | with_reducible refine choF' (by assumption) ?_ | (with_reducible refine altT ?_ ?_; first | omega | (simp only [List.length_append, List.length_cons, List.length_nil, List.length_map, List.length_take, List.length_drop, List.length_replicate, List.length_set]; omega)) | with_reducible refine altF ?_ | with_reducible refine all fun _ => ?_ | with_reducible refine both ?_ ?_ | (with_reducible refine choT ?_ ?_; omega) | (with_reducible refine choF ?_ ?_; omega) | with_reducible refine cho (fun _ => ?_) (fun _ => ?_))
        · rename_i h
          exact ⟨_, _, _, rfl, Sub.tuple (retOwn (Sub.refl _ _)), by simp [tblV, tblX, hT, hf, h], rfl⟩
        · rename_i h
          exact tbl_fail (by rw [hT, if_neg fun c => h c.2])
      · have iB : BC Go.Proofs.Try.prog 13 [.lst 4 (acc.map En.av) .ro] True (.tuple [.lst 1 ((tbB acc).map byt) .ro, .val (.int .i64 1)]) := ⟨fun _ => by
          have := (tBytesB (l := acc) (m := .ro)).ct (by omega)
          rw [tbE, if_neg hf] at this
          exact this⟩
        repeat' (first | with_reducible apply Stp.go | with_reducible refine imp fun _ => ?_ | (with_reducible refine hyp ?_ ?_; first | assumption | exact leftT_mem (by assumption)) | (with_reducible refine need ?_ ?_; first | trivial | omega | exact ⟨by assumption, by omega⟩ | (simp only [List.length_append, List.length_cons, List.length_nil, List.length_map, List.length_take, List.length_drop, List.length_replicate, List.length_set]; omega)) | (with_reducible refine fact ?_ ?_; first | trivial | exact ⟨rfl, rfl⟩ | kernel_rfl) | with_reducible refine choT (by assumption) ?_ | with_reducible refine choF (by assumption) ?_ | with_reducible refine choF' (by assumption) ?_ | (with_reducible refine altT ?_ ?_; first | omega | (simp only [List.length_append, List.length_cons, List.length_nil, List.length_map, List.length_take, List.length_drop, List.length_replicate, List.length_set]; omega)) | with_reducible refine altF ?_ | with_reducible refine all fun _ => ?_ | with_reducible refine both ?_ ?_ | (with_reducible refine choT ?_ ?_; omega) | (with_reducible refine choF ?_ ?_; omega) | with_reducible refine cho (fun _ => ?_) (fun _ => ?_))
        exact tbl_fail (by rw [hT, if_neg fun c => hf c.1])
instance {a : AV} {b : List UInt8} {m : SM} [h : IsL a byt 1 b m] : PC Go.Proofs.Try.prog 21 [a] (b.length ≤ 1000000000) (.tuple [.lst 4 ((tblV b).map En.av) .ro, I .i64 (tblX b)]) := ⟨fun hl => ⟨[.lst 1 (b.map byt) m], ⟨h.sub, trivial⟩, tParse_ok b m hl⟩⟩
end Go.Ab
