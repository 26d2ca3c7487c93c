/- The texts that this claim needs, part 11: a logic over abstract values, its steps, what the functions do. No condition of its own. -/
import Derived.Shelf.SlSortCmp.NoneTotal
import Derived.Test.YtobhbepiaibceaaSeekProvesK10
/- slices.SortFunc at entries: from the kit's contract to a call told of abstract states. -/
set_option linter.unusedVariables false
set_option linter.unusedSimpArgs false
namespace Go.Ab
open Go.Proofs Go.Shelf Go.RowKit Go.Lib Go.Sort
/-- An entry's cells. -/
def enc (e : En) : List Value := [.string ⟨e.key.toArray⟩, .string ⟨e.val.toArray⟩, .bool e.del, .int .i64 e.seq]
end Go.Ab

/- The code's fold. -/
set_option linter.unusedVariables false
set_option linter.unusedSimpArgs false
namespace Go.Ab
def entry_Fold.mark : Mark := ⟨fun t => false, fun t => false, fun t => false, fun t => Nat.beq t 17, fun t => Nat.beq t 40⟩
def entry_Fold.ann : Ann := ⟨fun n => bif Nat.beq n 3 then [3, 12, 13, 14] else bif Nat.beq n 11 then [8, 43] else [], fun n => none, fun n => none⟩
end Go.Ab

/- DeleteFunc of an own row; what writes come to. -/
set_option linter.unusedVariables false
set_option linter.unusedSimpArgs false
namespace Go.Ab
def slices_DeleteFunc.mark : Mark := ⟨fun t => false, fun t => false, fun t => false, fun t => false, fun t => Nat.beq t 10 || Nat.beq t 28⟩
def slices_DeleteFunc.ann : Ann := ⟨fun n => bif Nat.beq n 5 then [0, 1, 5, 6] else [], fun n => none, fun n => none⟩
end Go.Ab

/- Reading numbers and texts. -/
set_option linter.unusedVariables false
set_option linter.unusedSimpArgs false
namespace Go.Ab
def codec_Get.mark : Mark := ⟨fun t => false, fun t => false, fun t => false, fun t => Nat.beq t 18, fun t => false⟩
def codec_Get.ann : Ann := ⟨fun n => bif Nat.beq n 3 then [5, 12, 13, 14] else [], fun n => none, fun n => none⟩
/-- 'marlstone/codec.Get' -/
def codec_Get.sh (a0 : AV) (σ : Store) (Q : AEnd → Store → Prop) : Prop :=
  Do (aBuiltin Go.Proofs.Try.prog .len #[27] [a0]) fun t10 =>
  Do (aBuiltin Go.Proofs.Try.prog .min #[3, 3] [t10, (.val (.int .i64 10))]) fun t11 =>
  Do (aSlice .slice 1 a0 none (some t11) none) fun t12 =>
  Do (aBuiltin Go.Proofs.Try.prog .len #[27] [t12]) fun t13 =>
  aLoop (fun go vs σ =>
    At vs 0 fun s5 => At vs 1 fun s12 => At vs 2 fun s13 => At vs 3 fun s14 => Do (aBin Go.Proofs.Try.prog .lss 3 s14 s13) fun t15 =>
    aCond t15
      (Do (aIndexAddr .slice 1 s12 s14) fun t17 =>
    Do (loadF false 1 t17) fun t18 =>
    Do (aBin Go.Proofs.Try.prog .eql 3 s14 (.val (.int .i64 9))) fun t20 =>
    Do (aGuard t20 true (aIs t18)) fun t22 =>
    Do (aGuard t20 true (aBin Go.Proofs.Try.prog .gtr 5 t22 (W8 1))) fun t23 =>
    Do (aPick t20 t23 (.val (.bool false))) fun t24 =>
    Do (aGuard t24 false (aIs s14)) fun t26 =>
    Do (aGuard t24 false (aBin Go.Proofs.Try.prog .gtr 3 t26 (.val (.int .i64 0)))) fun t27 =>
    Do (aGuard t24 false (aIs t27)) fun t28 =>
    Do (aGuard t28 true (aIs t18)) fun t29 =>
    Do (aGuard t28 true (aBin Go.Proofs.Try.prog .eql 5 t29 (W8 0))) fun t30 =>
    Do (aGuard t24 false (aPick t28 t30 (.val (.bool false)))) fun t31 =>
    Do (aPick t24 (.val (.bool true)) t31) fun t32 =>
    aCond t32
      (Q (.ret (.tuple [(W64 0), (.val (.int .i64 0)), (.val (.bool false))])) σ)
      (Do (aBin Go.Proofs.Try.prog .and 5 t18 (W8 127)) fun t35 =>
    Do (fun x => aConvN 5 143 t35 x Go.Proofs.Try.prog) fun t36 =>
    Do (aBin Go.Proofs.Try.prog .mul 3 (.val (.int .i64 7)) s14) fun t38 =>
    Do (aBin Go.Proofs.Try.prog .shl 143 t36 t38) fun t39 =>
    Do (aBin Go.Proofs.Try.prog .or 143 s5 t39) fun t40 =>
    Do (aBin Go.Proofs.Try.prog .lss 5 t18 (W8 128)) fun t42 =>
    aCond t42
      (Do (aBin Go.Proofs.Try.prog .add 3 s14 (.val (.int .i64 1))) fun t45 =>
      Q (.ret (.tuple [t40, t45, (.val (.bool true))])) σ)
      (Do (aBin Go.Proofs.Try.prog .add 3 s14 (.val (.int .i64 1))) fun t46 =>
    go [t40, s12, s13, t46] σ)))
      (Q (.ret (.tuple [(W64 0), (.val (.int .i64 0)), (.val (.bool false))])) σ))
    [(W64 0), t12, t13, (.val (.int .i64 0))] σ
theorem codec_Get.eq (a0 : AV) (σ : Store) (Q : AEnd → Store → Prop) : vc (semOf Go.Proofs.Try.prog codec_Get.mark) Go.Proofs.Try.f128.ntmps codec_Get.ann (bodyOf Go.Proofs.Try.f128) (endK [.tmp 2, .tmp 3, .tmp 4] Q) (argFr [a0]) σ = codec_Get.sh a0 σ Q := by kernel_rfl
theorem codec_Get.go {a0 : AV} {σ : Store} {Q : AEnd → Store → Prop} (h : codec_Get.sh a0 σ Q) : ACalls Go.Proofs.Try.prog 128 [a0] σ Q :=
  acalls_of_eq [.tmp 2, .tmp 3, .tmp 4] Go.Proofs.Try.func128 (by kernel_rfl) (by kernel_rfl) (by kernel_rfl) (by kernel_rfl) (codec_Get.eq a0 σ Q) h
def ref01_Get.mark : Mark := ⟨fun t => false, fun t => false, fun t => false, fun t => false, fun t => false⟩
def ref01_Get.ann : Ann := ⟨fun n => bif Nat.beq n 3 then [0, 5, 6] else [], fun n => none, fun n => none⟩
theorem getT (s : List UInt8) {i : Nat} (h : i < s.length) (v : Nat) : getA (s.drop i) i v = (if 10 ≤ i ∨ (i = 9 ∧ 1 < (s.getD i 0).toNat) ∨ (0 < i ∧ (s.getD i 0).toNat = 0) then none
    else if (s.getD i 0).toNat < 128 then some (v + (s.getD i 0).toNat % 128 * 128 ^ i, i + 1) else getA (s.drop (i + 1)) (i + 1) (v + (s.getD i 0).toNat % 128 * 128 ^ i)) := by
  have e := drop_cons_d h
  have e2 : s.getD i default = s.getD i 0 := rfl
  rw [e, e2, getA]
theorem g_fail {l : List UInt8} (h : getG l = none) : AEnd.ret (.tuple [W64 0, I .i64 0, B false]) = .ret (.tuple [W64 (UInt64.ofNat (getV l)), I .i64 (getN l : Nat), B (getO l)]) := by
  simp [getV, getN, getO, h]
theorem g_done {l : List UInt8} {x : UInt64} {n : Nat} (h : getG l = some (x.toNat, n)) : AEnd.ret (.tuple [W64 x, I .i64 (n : Nat), B true]) = .ret (.tuple [W64 (UInt64.ofNat (getV l)), I .i64 (getN l : Nat), B (getO l)]) := by
  simp [getV, getN, getO, h]
theorem and127 (c : UInt8) : (c &&& 127).toNat = c.toNat % 128 := by
  rw [UInt8.toNat_and]
  exact Nat.and_two_pow_sub_one_eq_mod c.toNat 7
theorem pow_step {v c i : Nat} (hv : v < 128 ^ i) (hc : c < 128) : v + c * 128 ^ i < 128 ^ (i + 1) := by
  have h1 : c * 128 ^ i ≤ 127 * 128 ^ i := Nat.mul_le_mul_right _ (by omega)
  rw [Nat.pow_succ]
  omega
theorem codec_Get_ok (l : List UInt8) (m : SM) (hl : l.length ≤ 1000000000000000) : aPure Go.Proofs.Try.prog 128 [.lst 1 (l.map byt) m] (.tuple [W64 (UInt64.ofNat (getV l)), I .i64 (getN l : Nat), B (getO l)]) := by
  refine codec_Get.go ?_
  unfold codec_Get.sh
  repeat' (first | with_reducible apply Stp.go | with_reducible refine imp fun _ => ?_ | (with_reducible refine hyp ?_ ?_; first | assumption | exact leftT_mem (by assumption)) | (with_reducible refine need ?_ ?_; first | trivial | omega | exact ⟨by assumption, by omega⟩ | (simp only [List.length_append, List.length_cons, List.length_nil, List.length_map, List.length_take, List.length_drop, List.length_replicate, List.length_set]; omega)) | (with_reducible refine fact ?_ ?_; first | trivial | exact ⟨rfl, rfl⟩ | kernel_rfl) | with_reducible refine choT (by assumption) ?_ | with_reducible refine choF (by assumption) ?_ | with_reducible refine choF' (by assumption) ?_ | (with_reducible refine altT ?_ ?_; first | omega | (simp only [List.length_append, List.length_cons, List.length_nil, List.length_map, List.length_take, List.length_drop, List.length_replicate, List.length_set]; omega)) | with_reducible refine altF ?_ | with_reducible refine all fun _ => ?_ | with_reducible refine both ?_ ?_ | (with_reducible refine choT ?_ ?_; omega) | (with_reducible refine choF ?_ ?_; omega) | with_reducible refine cho (fun _ => ?_) (fun _ => ?_))
  refine loopI (β := Nat × UInt64) (fun x => x.1 ≤ min l.length 10 ∧ x.2.toNat < 128 ^ x.1 ∧ getG l = getA (l.drop x.1) x.1 x.2.toNat) (fun x => [W64 x.2, .lst 1 ((l.take (min l.length 10)).map byt) .ro, I .i64 (min l.length 10 : Nat), I .i64 (x.1 : Nat)]) (fun _ => []) (fun x => min l.length 10 - x.1) (0, 0) ⟨Nat.zero_le _, by decide, rfl⟩ ?_ ?_
  · rw [List.length_take, Nat.min_eq_left (Nat.min_le_left _ _)]
    exact Sub.refl _ _
  rintro ⟨i, w⟩ ⟨hi, hw, hg⟩
  dsimp only at hi hw hg ⊢
  by_cases hlt : i < min l.length 10
  · rw [getT l (by omega)] at hg
    have ht : (l.take (min l.length 10)).getD i default = l.getD i 0 := by rw [List.getD_eq_getElem?_getD, List.getD_eq_getElem?_getD, List.getElem?_take, if_pos hlt]; rfl
    have hb := fun h9 => or_bits (c := (l.getD i 0).toNat % 128) (i := i) (w := w) (by omega) hw (Nat.mod_lt _ (by decide)) h9
    have hp := pow_step (c := (l.getD i 0).toNat % 128) hw (Nat.mod_lt _ (by decide))
    repeat' (first | with_reducible apply Stp.go | with_reducible refine imp fun _ => ?_ | (with_reducible refine hyp ?_ ?_; first | assumption | exact leftT_mem (by assumption)) | (with_reducible refine need ?_ ?_; first | trivial | omega | exact ⟨by assumption, by omega⟩ | (simp only [List.length_append, List.length_cons, List.length_nil, List.length_map, List.length_take, List.length_drop, List.length_replicate, List.length_set]; omega)) | (with_reducible refine fact ?_ ?_; first | trivial | exact ⟨rfl, rfl⟩ | kernel_rfl) | with_reducible refine choT (by assumption) ?_ | with_reducible refine choF (by assumption) ?_ | with_reducible refine choF' (by assumption) ?_ | (with_reducible refine altT ?_ ?_; first | omega | (simp only [List.length_append, List.length_cons, List.length_nil, List.length_map, List.length_take, List.length_drop, List.length_replicate, List.length_set]; omega)) | with_reducible refine altF ?_ | with_reducible refine all fun _ => ?_ | with_reducible refine both ?_ ?_ | (with_reducible refine choT ?_ ?_; omega) | (with_reducible refine choF ?_ ?_; omega) | with_reducible refine cho (fun _ => ?_) (fun _ => ?_))
    all_goals simp only [ht, and127] at *
    all_goals
      first
      | (refine ⟨g_fail ?_, by trivial⟩; rw [hg, if_pos (by omega)])
      | (refine ⟨g_done ?_, by trivial⟩; rw [hg, if_neg (by omega), if_pos (by omega), hb (by omega)])
      | (rw [if_neg (by omega), if_neg (by omega), ← hb (by omega)] at hg
         rw [← hb (by omega)] at hp
         exact again (i + 1, _) (by dsimp only; omega) ⟨by dsimp only; omega, hp, hg⟩ (Sub.refl _ _))
  · have hn : getG l = none := by
      rw [hg]
      rcases Nat.lt_or_ge i 10 with h | h
      · rw [List.drop_eq_nil_of_le (by omega)]
        rfl
      · exact getA_ge _ _ h
    repeat' (first | with_reducible apply Stp.go | with_reducible refine imp fun _ => ?_ | (with_reducible refine hyp ?_ ?_; first | assumption | exact leftT_mem (by assumption)) | (with_reducible refine need ?_ ?_; first | trivial | omega | exact ⟨by assumption, by omega⟩ | (simp only [List.length_append, List.length_cons, List.length_nil, List.length_map, List.length_take, List.length_drop, List.length_replicate, List.length_set]; omega)) | (with_reducible refine fact ?_ ?_; first | trivial | exact ⟨rfl, rfl⟩ | kernel_rfl) | with_reducible refine choT (by assumption) ?_ | with_reducible refine choF (by assumption) ?_ | with_reducible refine choF' (by assumption) ?_ | (with_reducible refine altT ?_ ?_; first | omega | (simp only [List.length_append, List.length_cons, List.length_nil, List.length_map, List.length_take, List.length_drop, List.length_replicate, List.length_set]; omega)) | with_reducible refine altF ?_ | with_reducible refine all fun _ => ?_ | with_reducible refine both ?_ ?_ | (with_reducible refine choT ?_ ?_; omega) | (with_reducible refine choF ?_ ?_; omega) | with_reducible refine cho (fun _ => ?_) (fun _ => ?_))
    exact ⟨g_fail hn, by trivial⟩
instance {a : AV} {l : List UInt8} {m : SM} [h : IsL a byt 1 l m] : PC Go.Proofs.Try.prog 128 [a] (l.length ≤ 1000000000000000) (.tuple [W64 (UInt64.ofNat (getV l)), I .i64 (getN l : Nat), B (getO l)]) := ⟨fun hl => ⟨[.lst 1 (l.map byt) m], ⟨h.sub, trivial⟩, codec_Get_ok l m hl⟩⟩
def codec_Text.mark : Mark := ⟨fun t => Nat.beq t 11, fun t => false, fun t => false, fun t => false, fun t => false⟩
def codec_Text.ann : Ann := ⟨fun n => [], fun n => none, fun n => none⟩
/-- 'marlstone/codec.Text' -/
def codec_Text.sh (a0 : AV) (σ : Store) (Q : AEnd → Store → Prop) : Prop :=
  Do (aPureC Go.Proofs.Try.prog 128 [a0]) fun t11 =>
  Do (aExt t11 0) fun t12 =>
  Do (aExt t11 1) fun t13 =>
  Do (aExt t11 2) fun t14 =>
  Do (aUn Go.Proofs.Try.prog .not t14) fun t16 =>
  Do (aGuard t16 false (aIs t12)) fun t18 =>
  Do (aGuard t16 false (aIs a0)) fun t19 =>
  Do (aGuard t16 false (aBuiltin Go.Proofs.Try.prog .len #[27] [t19])) fun t20 =>
  Do (aGuard t16 false (aIs t13)) fun t21 =>
  Do (aGuard t16 false (aBin Go.Proofs.Try.prog .sub 3 t20 t21)) fun t22 =>
  Do (aGuard t16 false (fun x => aConvN 3 143 t22 x Go.Proofs.Try.prog)) fun t23 =>
  Do (aGuard t16 false (aBin Go.Proofs.Try.prog .gtr 143 t18 t23)) fun t24 =>
  Do (aPick t16 (.val (.bool true)) t24) fun t25 =>
  aCond t25
    (Q (.ret (.tuple [(.val (.string ⟨#[]⟩)), (.val (.int .i64 0)), (.val (.bool false))])) σ)
    (Do (fun x => aConvN 143 3 t12 x Go.Proofs.Try.prog) fun t28 =>
  Do (aBin Go.Proofs.Try.prog .add 3 t13 t28) fun t29 =>
  Do (aSlice .slice 1 a0 (some t13) (some t29) none) fun t33 =>
  Do (aConvBS t33) fun t34 =>
  Q (.ret (.tuple [t34, t29, (.val (.bool true))])) σ)
theorem codec_Text.eq (a0 : AV) (σ : Store) (Q : AEnd → Store → Prop) : vc (semOf Go.Proofs.Try.prog codec_Text.mark) Go.Proofs.Try.f129.ntmps codec_Text.ann (bodyOf Go.Proofs.Try.f129) (endK [.tmp 2, .tmp 3, .tmp 4] Q) (argFr [a0]) σ = codec_Text.sh a0 σ Q := by kernel_rfl
theorem codec_Text.go {a0 : AV} {σ : Store} {Q : AEnd → Store → Prop} (h : codec_Text.sh a0 σ Q) : ACalls Go.Proofs.Try.prog 129 [a0] σ Q :=
  acalls_of_eq [.tmp 2, .tmp 3, .tmp 4] Go.Proofs.Try.func129 (by kernel_rfl) (by kernel_rfl) (by kernel_rfl) (by kernel_rfl) (codec_Text.eq a0 σ Q) h
def ref01_Text.mark : Mark := ⟨fun t => Nat.beq t 10, fun t => false, fun t => false, fun t => false, fun t => false⟩
def ref01_Text.ann : Ann := ⟨fun n => [], fun n => none, fun n => none⟩
theorem textG_eq (l : List UInt8) : textG l = if getO l = true then (if l.length - getN l < getV l then none else some ((l.drop (getN l)).take (getV l), getN l + getV l)) else none := by
  unfold textG getO getN getV
  cases getG l with
  | none => rfl
  | some r => rfl
theorem t_fail {l : List UInt8} (h : textG l = none) : AEnd.ret (.tuple [.val (.string ⟨#[]⟩), I .i64 0, B false]) = .ret (.tuple [S (textV l), I .i64 (textN l : Nat), B (textO l)]) := by
  simp [textV, textN, textO, h]
theorem t_done {l t : List UInt8} {n : Nat} (h : textG l = some (t, n)) : AEnd.ret (.tuple [S t, I .i64 (n : Nat), B true]) = .ret (.tuple [S (textV l), I .i64 (textN l : Nat), B (textO l)]) := by
  simp [textV, textN, textO, h]
theorem codec_Text_ok (l : List UInt8) (m : SM) (hl : l.length ≤ 1000000000000000) : aPure Go.Proofs.Try.prog 129 [.lst 1 (l.map byt) m] (.tuple [S (textV l), I .i64 (textN l : Nat), B (textO l)]) := by
  refine codec_Text.go ?_
  unfold codec_Text.sh
  obtain ⟨b1, b2, b3, b4⟩ := get_bound (s := l)
  have hu := u64_len b1
  repeat' (first | with_reducible apply Stp.go | with_reducible refine imp fun _ => ?_ | (with_reducible refine hyp ?_ ?_; first | assumption | exact leftT_mem (by assumption)) | (with_reducible refine need ?_ ?_; first | trivial | omega | exact ⟨by assumption, by omega⟩ | (simp only [List.length_append, List.length_cons, List.length_nil, List.length_map, List.length_take, List.length_drop, List.length_replicate, List.length_set]; omega)) | (with_reducible refine fact ?_ ?_; first | trivial | exact ⟨rfl, rfl⟩ | kernel_rfl) | with_reducible refine choT (by assumption) ?_ | with_reducible refine choF (by assumption) ?_ | with_reducible refine choF' (by assumption) ?_ | (with_reducible refine altT ?_ ?_; first | omega | (simp only [List.length_append, List.length_cons, List.length_nil, List.length_map, List.length_take, List.length_drop, List.length_replicate, List.length_set]; omega)) | with_reducible refine altF ?_ | with_reducible refine all fun _ => ?_ | with_reducible refine both ?_ ?_ | (with_reducible refine choT ?_ ?_; omega) | (with_reducible refine choF ?_ ?_; omega) | with_reducible refine cho (fun _ => ?_) (fun _ => ?_))
  · rename_i h1 h2
    refine ⟨t_fail ?_, rfl⟩
    rw [textG_eq, if_pos h1, if_pos (by omega)]
  · rename_i h1 h2
    rw [Nat.mod_eq_of_lt b1]
    refine ⟨t_done ?_, rfl⟩
    rw [textG_eq, if_pos h1, if_neg (by omega), List.drop_take, Nat.add_sub_cancel_left]
  · rename_i h1
    refine ⟨t_fail ?_, rfl⟩
    rw [textG_eq, if_neg h1]
instance {a : AV} {l : List UInt8} {m : SM} [h : IsL a byt 1 l m] : PC Go.Proofs.Try.prog 129 [a] (l.length ≤ 1000000000000000) (.tuple [S (textV l), I .i64 (textN l : Nat), B (textO l)]) := ⟨fun hl => ⟨[.lst 1 (l.map byt) m], ⟨h.sub, trivial⟩, codec_Text_ok l m hl⟩⟩
end Go.Ab

/- Reading an entry. -/
set_option linter.unusedVariables false
set_option linter.unusedSimpArgs false
namespace Go.Ab
def entry_reader_number.mark : Mark := ⟨fun t => Nat.beq t 16, fun t => false, fun t => false, fun t => false, fun t => false⟩
def entry_reader_number.ann : Ann := ⟨fun n => [], fun n => none, fun n => none⟩
/-- '(*marlstone/entry.reader).number' -/
def entry_reader_number.sh (a0 : AV) (σ : Store) (Q : AEnd → Store → Prop) : Prop :=
  Do (aNil a0) fun t8 =>
  Do (aFieldAddr 0 1 t8) fun t9 =>
  Do (loadA false 1 t9 σ) fun t10 =>
  Do (aNil a0) fun t12 =>
  Do (aFieldAddr 1 1 t12) fun t13 =>
  Do (loadA false 1 t13 σ) fun t14 =>
  Do (aSlice .slice 1 t10 (some t14) none none) fun t15 =>
  Do (aPureC Go.Proofs.Try.prog 128 [t15]) fun t16 =>
  Do (aExt t16 0) fun t17 =>
  Do (aExt t16 1) fun t18 =>
  Do (aExt t16 2) fun t19 =>
  Do (aNil a0) fun t21 =>
  Do (aFieldAddr 1 1 t21) fun t22 =>
  Do (loadA false 1 t22 σ) fun t23 =>
  Do (aBin Go.Proofs.Try.prog .add 3 t23 t18) fun t25 =>
  Do (aNil a0) fun t26 =>
  Do (aFieldAddr 1 1 t26) fun t27 =>
  storeA 1 t27 t25 σ fun u σ =>
  Do (aNil a0) fun t30 =>
  Do (aFieldAddr 2 1 t30) fun t31 =>
  Do (loadA false 1 t31 σ) fun t32 =>
  Do (aGuard t32 false (aIs t19)) fun t34 =>
  Do (aGuard t32 false (aUn Go.Proofs.Try.prog .not t34)) fun t35 =>
  Do (aPick t32 (.val (.bool true)) t35) fun t36 =>
  Do (aNil a0) fun t37 =>
  Do (aFieldAddr 2 1 t37) fun t38 =>
  storeA 1 t38 t36 σ fun u_1 σ_1 =>
  Q (.ret t17) σ_1
theorem entry_reader_number.eq (a0 : AV) (σ : Store) (Q : AEnd → Store → Prop) : vc (semOf Go.Proofs.Try.prog entry_reader_number.mark) Go.Proofs.Try.f114.ntmps entry_reader_number.ann (bodyOf Go.Proofs.Try.f114) (endK [.tmp 2] Q) (argFr [a0]) σ = entry_reader_number.sh a0 σ Q := by kernel_rfl
theorem entry_reader_number.go {a0 : AV} {σ : Store} {Q : AEnd → Store → Prop} (h : entry_reader_number.sh a0 σ Q) : ACalls Go.Proofs.Try.prog 114 [a0] σ Q :=
  acalls_of_eq [.tmp 2] Go.Proofs.Try.func114 (by kernel_rfl) (by kernel_rfl) (by kernel_rfl) (by kernel_rfl) (entry_reader_number.eq a0 σ Q) h
def entry_reader_text.mark : Mark := ⟨fun t => Nat.beq t 16, fun t => false, fun t => false, fun t => false, fun t => false⟩
def entry_reader_text.ann : Ann := ⟨fun n => [], fun n => none, fun n => none⟩
/-- '(*marlstone/entry.reader).text' -/
def entry_reader_text.sh (a0 : AV) (σ : Store) (Q : AEnd → Store → Prop) : Prop :=
  Do (aNil a0) fun t8 =>
  Do (aFieldAddr 0 1 t8) fun t9 =>
  Do (loadA false 1 t9 σ) fun t10 =>
  Do (aNil a0) fun t12 =>
  Do (aFieldAddr 1 1 t12) fun t13 =>
  Do (loadA false 1 t13 σ) fun t14 =>
  Do (aSlice .slice 1 t10 (some t14) none none) fun t15 =>
  Do (aPureC Go.Proofs.Try.prog 129 [t15]) fun t16 =>
  Do (aExt t16 0) fun t17 =>
  Do (aExt t16 1) fun t18 =>
  Do (aExt t16 2) fun t19 =>
  Do (aNil a0) fun t21 =>
  Do (aFieldAddr 1 1 t21) fun t22 =>
  Do (loadA false 1 t22 σ) fun t23 =>
  Do (aBin Go.Proofs.Try.prog .add 3 t23 t18) fun t25 =>
  Do (aNil a0) fun t26 =>
  Do (aFieldAddr 1 1 t26) fun t27 =>
  storeA 1 t27 t25 σ fun u σ =>
  Do (aNil a0) fun t30 =>
  Do (aFieldAddr 2 1 t30) fun t31 =>
  Do (loadA false 1 t31 σ) fun t32 =>
  Do (aGuard t32 false (aIs t19)) fun t34 =>
  Do (aGuard t32 false (aUn Go.Proofs.Try.prog .not t34)) fun t35 =>
  Do (aPick t32 (.val (.bool true)) t35) fun t36 =>
  Do (aNil a0) fun t37 =>
  Do (aFieldAddr 2 1 t37) fun t38 =>
  storeA 1 t38 t36 σ fun u_1 σ_1 =>
  Q (.ret t17) σ_1
theorem entry_reader_text.eq (a0 : AV) (σ : Store) (Q : AEnd → Store → Prop) : vc (semOf Go.Proofs.Try.prog entry_reader_text.mark) Go.Proofs.Try.f115.ntmps entry_reader_text.ann (bodyOf Go.Proofs.Try.f115) (endK [.tmp 2] Q) (argFr [a0]) σ = entry_reader_text.sh a0 σ Q := by kernel_rfl
theorem entry_reader_text.go {a0 : AV} {σ : Store} {Q : AEnd → Store → Prop} (h : entry_reader_text.sh a0 σ Q) : ACalls Go.Proofs.Try.prog 115 [a0] σ Q :=
  acalls_of_eq [.tmp 2] Go.Proofs.Try.func115 (by kernel_rfl) (by kernel_rfl) (by kernel_rfl) (by kernel_rfl) (entry_reader_text.eq a0 σ Q) h
theorem number_ok (b : Nat) (l : List UInt8) (m : SM) (at_ : Nat) (w : Bool) (hl : l.length ≤ 1000000000000000) (ha : at_ ≤ l.length) : ACalls Go.Proofs.Try.prog 114 [ptrAt b 0] [.var b 158 [.lst 1 (l.map byt) m, I .i64 (at_ : Nat), B w]]
    fun x σ' => x = .ret (W64 (UInt64.ofNat (getV (l.drop at_)))) ∧ σ' = [.var b 158 [.lst 1 (l.map byt) m, I .i64 ((at_ + getN (l.drop at_) : Nat) : Int), B (w || !getO (l.drop at_))]] := by
  refine entry_reader_number.go ?_
  unfold entry_reader_number.sh
  obtain ⟨b1, b2, b3, b4⟩ := get_bound (s := l.drop at_)
  rw [List.length_drop] at b3
  repeat' (first | with_reducible apply Stp.go | with_reducible refine imp fun _ => ?_ | (with_reducible refine hyp ?_ ?_; first | assumption | exact leftT_mem (by assumption)) | (with_reducible refine need ?_ ?_; first | trivial | omega | exact ⟨by assumption, by omega⟩ | (simp only [List.length_append, List.length_cons, List.length_nil, List.length_map, List.length_take, List.length_drop, List.length_replicate, List.length_set]; omega)) | (with_reducible refine fact ?_ ?_; first | trivial | exact ⟨rfl, rfl⟩ | kernel_rfl) | with_reducible refine choT (by assumption) ?_ | with_reducible refine choF (by assumption) ?_ | with_reducible refine choF' (by assumption) ?_ | (with_reducible refine altT ?_ ?_; first | omega | (simp only [List.length_append, List.length_cons, List.length_nil, List.length_map, List.length_take, List.length_drop, List.length_replicate, List.length_set]; omega)) | with_reducible refine altF ?_ | with_reducible refine all fun _ => ?_ | with_reducible refine both ?_ ?_ | (with_reducible refine choT ?_ ?_; omega) | (with_reducible refine choF ?_ ?_; omega) | with_reducible refine cho (fun _ => ?_) (fun _ => ?_))
  all_goals
    refine ⟨rfl, ?_⟩
    simp_all
instance {b at_ : Nat} {l : List UInt8} {m : SM} {w : Bool} {x : Int} {σ rest : Store} {put : Ent → Store} [hv : VarAt b σ 158 [.lst 1 (l.map byt) m, .val (.int .i64 x), B w] put rest] [hx : NatOf x at_] : EC Go.Proofs.Try.prog 114 [ptrAt b 0] σ (l.length ≤ 1000000000000000 ∧ at_ ≤ l.length) Unit
    (fun _ => W64 (UInt64.ofNat (getV (l.drop at_)))) (fun _ => put (.var b 158 [.lst 1 (l.map byt) m, I .i64 ((at_ + getN (l.drop at_) : Nat) : Int), B (w || !getO (l.drop at_))])) := ⟨fun ⟨h1, h2⟩ => by
  have e := hx.eq
  subst e
  exact (ACalls.at_ (number_ok b l m at_ w h1 h2)).mono fun x σ' ⟨g1, g2⟩ => ⟨(), g1, g2⟩⟩
theorem text_ok (b : Nat) (l : List UInt8) (m : SM) (at_ : Nat) (w : Bool) (hl : l.length ≤ 1000000000000000) (ha : at_ ≤ l.length) : ACalls Go.Proofs.Try.prog 115 [ptrAt b 0] [.var b 158 [.lst 1 (l.map byt) m, I .i64 (at_ : Nat), B w]]
    fun x σ' => x = .ret (S (textV (l.drop at_))) ∧ σ' = [.var b 158 [.lst 1 (l.map byt) m, I .i64 ((at_ + textN (l.drop at_) : Nat) : Int), B (w || !textO (l.drop at_))]] := by
  refine entry_reader_text.go ?_
  unfold entry_reader_text.sh
  obtain ⟨b1, b2, b3⟩ := text_bound (s := l.drop at_)
  rw [List.length_drop] at b1
  repeat' (first | with_reducible apply Stp.go | with_reducible refine imp fun _ => ?_ | (with_reducible refine hyp ?_ ?_; first | assumption | exact leftT_mem (by assumption)) | (with_reducible refine need ?_ ?_; first | trivial | omega | exact ⟨by assumption, by omega⟩ | (simp only [List.length_append, List.length_cons, List.length_nil, List.length_map, List.length_take, List.length_drop, List.length_replicate, List.length_set]; omega)) | (with_reducible refine fact ?_ ?_; first | trivial | exact ⟨rfl, rfl⟩ | kernel_rfl) | with_reducible refine choT (by assumption) ?_ | with_reducible refine choF (by assumption) ?_ | with_reducible refine choF' (by assumption) ?_ | (with_reducible refine altT ?_ ?_; first | omega | (simp only [List.length_append, List.length_cons, List.length_nil, List.length_map, List.length_take, List.length_drop, List.length_replicate, List.length_set]; omega)) | with_reducible refine altF ?_ | with_reducible refine all fun _ => ?_ | with_reducible refine both ?_ ?_ | (with_reducible refine choT ?_ ?_; omega) | (with_reducible refine choF ?_ ?_; omega) | with_reducible refine cho (fun _ => ?_) (fun _ => ?_))
  all_goals
    refine ⟨rfl, ?_⟩
    simp_all
instance {b at_ : Nat} {l : List UInt8} {m : SM} {w : Bool} {x : Int} {σ rest : Store} {put : Ent → Store} [hv : VarAt b σ 158 [.lst 1 (l.map byt) m, .val (.int .i64 x), B w] put rest] [hx : NatOf x at_] : EC Go.Proofs.Try.prog 115 [ptrAt b 0] σ (l.length ≤ 1000000000000000 ∧ at_ ≤ l.length) Unit
    (fun _ => S (textV (l.drop at_))) (fun _ => put (.var b 158 [.lst 1 (l.map byt) m, I .i64 ((at_ + textN (l.drop at_) : Nat) : Int), B (w || !textO (l.drop at_))])) := ⟨fun ⟨h1, h2⟩ => by
  have e := hx.eq
  subst e
  exact (ACalls.at_ (text_ok b l m at_ w h1 h2)).mono fun x σ' ⟨g1, g2⟩ => ⟨(), g1, g2⟩⟩
def entry_Parse.mark : Mark := ⟨fun t => Nat.beq t 45, fun t => false, fun t => false, fun t => Nat.beq t 14 || Nat.beq t 27, fun t => false⟩
def entry_Parse.ann : Ann := ⟨fun n => [], fun n => bif Nat.beq n 8 then some [2, 5, 7] else none, fun n => bif Nat.beq n 5 then some [2, 5, 7] else bif Nat.beq n 10 then some [2, 3, 4] else none⟩
/-- 'marlstone/entry.Parse' -/
def entry_Parse.sh (a0 : AV) (σ : Store) (Q : AEnd → Store → Prop) : Prop :=
  aNewVar 54 [.val (.string ⟨#[]⟩), .val (.string ⟨#[]⟩), .val (.bool false), .val (.int .i64 0)] σ fun t2 σ =>
  Do (aBuiltin Go.Proofs.Try.prog .len #[27] [a0]) fun t9 =>
  Do (aBin Go.Proofs.Try.prog .eql 3 t9 (.val (.int .i64 0))) fun t10 =>
  Do (aGuard t10 false (aIs a0)) fun t12 =>
  Do (aGuard t10 false (aIndexAddr .slice 1 t12 (.val (.int .i64 0)))) fun t13 =>
  Do (aGuard t10 false (loadF false 1 t13)) fun t14 =>
  Do (aGuard t10 false (aBin Go.Proofs.Try.prog .gtr 5 t14 (W8 1))) fun t15 =>
  Do (aPick t10 (.val (.bool true)) t15) fun t16 =>
  aCond t16
    (Do (aLit [.val (.string ⟨#[]⟩), .val (.string ⟨#[]⟩), .val (.bool false), .val (.int .i64 0)] [(0, 1), (1, 1), (2, 1), (3, 1)] []) fun t17 =>
    storeA 4 t2 t17 σ fun u σ_1 =>
    Do (loadA true 4 t2 σ_1) fun r2 => Q (.ret (.tuple [r2, (.val (.int .i64 0)), (.val (.int .i64 2))])) σ_1)
    (Do (aLit [.val (.slice none 0 0), .val (.int .i64 0), .val (.bool false)] [(0, 1), (1, 1), (2, 1)] [(0, a0), (1, (.val (.int .i64 1)))]) fun t19 =>
  aNewVar 158 (t19 : AV).cells σ fun t20 σ_2 =>
  aCall Go.Proofs.Try.prog 114 [t20] σ_2 (fun t22 σ_3 =>
  aJoin (fun j =>
    Do (aIndexAddr .slice 1 a0 (.val (.int .i64 0))) fun t26 =>
    Do (loadF false 1 t26) fun t27 =>
    Do (aBin Go.Proofs.Try.prog .eql 5 t27 (W8 1)) fun t28 =>
    Do (aBuiltin Go.Proofs.Try.prog .min #[143, 143] [t22, (W64 1099511627777)]) fun t30 =>
    Do (fun x => aConvN 143 3 t30 x Go.Proofs.Try.prog) fun t31 =>
    Both (aCall Go.Proofs.Try.prog 115 [t20] σ_3 (fun t24 σ_5 =>
    Do (aLit [.val (.string ⟨#[]⟩), .val (.string ⟨#[]⟩), .val (.bool false), .val (.int .i64 0)] [(0, 1), (1, 1), (2, 1), (3, 1)] [(0, t24), (2, t28), (3, t31)]) fun t32 =>
    aNewVar 54 [.val (.string ⟨#[]⟩), .val (.string ⟨#[]⟩), .val (.bool false), .val (.int .i64 0)] σ_5 fun t7 σ_6 =>
    storeA 4 t7 t32 σ_6 fun u_1 σ_7 =>
    j [t2, t20, t7] σ_7) (fun e σ_8 => Q (.pan e) σ_8)) (aNewVar 54 [.val (.string ⟨#[]⟩), .val (.string ⟨#[]⟩), .val (.bool false), .val (.int .i64 0)] σ_3 fun t7_1 σ_9 =>
    aCall Go.Proofs.Try.prog 115 [t20] σ_9 (fun t24_1 σ_10 =>
    Do (aLit [.val (.string ⟨#[]⟩), .val (.string ⟨#[]⟩), .val (.bool false), .val (.int .i64 0)] [(0, 1), (1, 1), (2, 1), (3, 1)] [(0, t24_1), (2, t28), (3, t31)]) fun t32_1 =>
    storeA 4 t7_1 t32_1 σ_10 fun u_2 σ_11 =>
    j [t2, t20, t7_1] σ_11) (fun e_1 σ_12 => Q (.pan e_1) σ_12))) fun vs σ_4 =>
  At vs 0 fun s2 => At vs 1 fun s5 => At vs 2 fun s7 => aJoin (fun j_1 =>
    Do (aFieldAddr 2 1 s7) fun t33 =>
    Do (loadA false 1 t33 σ_4) fun t34 =>
    Do (aUn Go.Proofs.Try.prog .not t34) fun t35 =>
    aCond t35
      (aCall Go.Proofs.Try.prog 115 [s5] σ_4 (fun t37 σ_14 =>
      Do (aFieldAddr 1 1 s7) fun t38 =>
      storeA 1 t38 t37 σ_14 fun u_3 σ_15 =>
      j_1 [s2, s5, s7] σ_15) (fun e_2 σ_16 => Q (.pan e_2) σ_16))
      (j_1 [s2, s5, s7] σ_4)) fun vs_1 σ_13 =>
  At vs_1 0 fun s2_1 => At vs_1 1 fun s5_1 => At vs_1 2 fun s7_1 => Do (aNil s5_1) fun t40 =>
  Do (aFieldAddr 2 1 t40) fun t41 =>
  Do (loadA false 1 t41 σ_13) fun t42 =>
  Do (aGuard t42 false (loadA true 4 s7_1 σ_13)) fun t44 =>
  Do (aGuard t42 false (aPureC Go.Proofs.Try.prog 61 [t44])) fun t45 =>
  Do (aGuard t42 false (aUn Go.Proofs.Try.prog .not t45)) fun t46 =>
  Do (aPick t42 (.val (.bool true)) t46) fun t47 =>
  aCond t47
    (Do (aLit [.val (.string ⟨#[]⟩), .val (.string ⟨#[]⟩), .val (.bool false), .val (.int .i64 0)] [(0, 1), (1, 1), (2, 1), (3, 1)] []) fun t48 =>
    storeA 4 s2_1 t48 σ_13 fun u_4 σ_17 =>
    Do (loadA true 4 s2_1 σ_17) fun r2_1 => Q (.ret (.tuple [r2_1, (.val (.int .i64 0)), (.val (.int .i64 2))])) σ_17)
    (aJoin (fun j_2 =>
    Do (loadA true 4 s7_1 σ_13) fun t49 =>
    Do (aNil s5_1) fun t51 =>
    Do (aFieldAddr 1 1 t51) fun t52 =>
    Both (Do (loadA false 1 t52 σ_13) fun t53 =>
    storeA 4 s2_1 t49 σ_13 fun u_5 σ_19 =>
    j_2 [s2_1, t53, (.val (.int .i64 0))] σ_19) (storeA 4 s2_1 t49 σ_13 fun u_6 σ_20 =>
    Do (loadA false 1 t52 σ_20) fun t53_1 =>
    j_2 [s2_1, t53_1, (.val (.int .i64 0))] σ_20)) fun vs_2 σ_18 =>
  At vs_2 0 fun s2_2 => At vs_2 1 fun s3 => At vs_2 2 fun s4 => Do (loadA true 4 s2_2 σ_18) fun r2_2 => Q (.ret (.tuple [r2_2, s3, s4])) σ_18)) (fun e_3 σ_21 => Q (.pan e_3) σ_21))
theorem entry_Parse.eq (a0 : AV) (σ : Store) (Q : AEnd → Store → Prop) : vc (semOf Go.Proofs.Try.prog entry_Parse.mark) Go.Proofs.Try.f93.ntmps entry_Parse.ann (bodyOf Go.Proofs.Try.f93) (endK [.cell 2 true 4, .tmp 3, .tmp 4] Q) (argFr [a0]) σ = entry_Parse.sh a0 σ Q := by kernel_rfl
theorem entry_Parse.go {a0 : AV} {σ : Store} {Q : AEnd → Store → Prop} (h : entry_Parse.sh a0 σ Q) : ACalls Go.Proofs.Try.prog 93 [a0] σ Q :=
  acalls_of_eq [.cell 2 true 4, .tmp 3, .tmp 4] Go.Proofs.Try.func93 (by kernel_rfl) (by kernel_rfl) (by kernel_rfl) (by kernel_rfl) (entry_Parse.eq a0 σ Q) h
def ref03_Parse.mark : Mark := ⟨fun t => Nat.beq t 28 || Nat.beq t 45 || Nat.beq t 69 || Nat.beq t 82, fun t => false, fun t => false, fun t => false, fun t => false⟩
def ref03_Parse.ann : Ann := ⟨fun n => [], fun n => bif Nat.beq n 18 then some [2, 8, 12] else none, fun n => none⟩
theorem p_fail {l : List UInt8} (h : parseE l = none) : AEnd.ret (.tuple [En.zero.av, I .i64 0, I .i64 2]) = .ret (.tuple [(parseV l).av, I .i64 (parseN l : Nat), I .i64 (parseX l)]) := by
  simp [parseV, parseN, parseX, h]
theorem p_done {l : List UInt8} {e : En} {n : Nat} (h : parseE l = some (e, n)) : AEnd.ret (.tuple [e.av, I .i64 (n : Nat), I .i64 0]) = .ret (.tuple [(parseV l).av, I .i64 (parseN l : Nat), I .i64 (parseX l)]) := by
  simp [parseV, parseN, parseX, h]
theorem entry_Parse_ok (l : List UInt8) (m : SM) (hl : l.length ≤ 1000000000000000) : aPure Go.Proofs.Try.prog 93 [.lst 1 (l.map byt) m] (.tuple [(parseV l).av, I .i64 (parseN l : Nat), I .i64 (parseX l)]) := by
  refine ACalls.fin (entry_Parse.go ?_)
  unfold entry_Parse.sh
  obtain ⟨b1, b2, b3, b4⟩ := get_bound (s := l.drop 1)
  obtain ⟨c1, c2, c3⟩ := text_bound (s := l.drop (1 + getN (l.drop 1)))
  obtain ⟨d1, d2, d3⟩ := text_bound (s := l.drop (1 + getN (l.drop 1) + textN (l.drop (1 + getN (l.drop 1)))))
  rw [List.length_drop] at b3 c1 d1
  repeat' (first | with_reducible apply Stp.go | with_reducible refine imp fun _ => ?_ | (with_reducible refine hyp ?_ ?_; first | assumption | exact leftT_mem (by assumption)) | (with_reducible refine need ?_ ?_; first | trivial | omega | exact ⟨by assumption, by omega⟩ | (simp only [List.length_append, List.length_cons, List.length_nil, List.length_map, List.length_take, List.length_drop, List.length_replicate, List.length_set]; omega)) | (with_reducible refine fact ?_ ?_; first | trivial | exact ⟨rfl, rfl⟩ | kernel_rfl) | with_reducible refine choT (by assumption) ?_ | with_reducible refine choF (by assumption) ?_ | with_reducible refine choF' (by assumption) ?_ | (with_reducible refine altT ?_ ?_; first | omega | (simp only [List.length_append, List.length_cons, List.length_nil, List.length_map, List.length_take, List.length_drop, List.length_replicate, List.length_set]; omega)) | with_reducible refine altF ?_ | with_reducible refine all fun _ => ?_ | with_reducible refine both ?_ ?_ | (with_reducible refine choT ?_ ?_; omega) | (with_reducible refine choF ?_ ?_; omega) | with_reducible refine cho (fun _ => ?_) (fun _ => ?_))
  · rename_i h0
    refine ⟨_, _, _, rfl, Sub.app_nil _, p_fail ?_, rfl⟩
    rw [parseE, if_pos (.inl (List.length_eq_zero_iff.1 h0))]
  · rename_i h0 h1
    refine ⟨_, _, _, rfl, Sub.app_nil _, p_fail ?_, rfl⟩
    rw [parseE, if_pos (.inr h1)]
  · rename_i r2 h0 h1 r _
    have hmin : (if (UInt64.ofNat (getV (l.drop 1))).toNat ≤ UInt64.toNat 1099511627777 then UInt64.ofNat (getV (l.drop 1)) else 1099511627777).toNat = min (getV (l.drop 1)) 1099511627777 := by
      have e := u64_len b1
      have e2 : UInt64.toNat 1099511627777 = 1099511627777 := rfl
      rw [e, e2]
      split
      · rw [e]; omega
      · rw [e2]; omega
    refine joinI (β := Nat) (fun _ => True) (fun b => [ptrAt r2 0, ptrAt r 0, ptrAt b 0]) (fun b => [.var r 158 [.lst 1 (l.map byt) m, I .i64 ((1 + getN (l.drop 1) + textN (l.drop (1 + getN (l.drop 1))) : Nat) : Int), B (!getO (l.drop 1) || !textO (l.drop (1 + getN (l.drop 1))))], .var r2 54 En.zero.cs,
      .var b 54 (En.cs ⟨textV (l.drop (1 + getN (l.drop 1))), [], decide ((l.getD 0 default).toNat = 1), (min (getV (l.drop 1)) 1099511627777 : Nat)⟩)]) ?_ ?_
    · repeat' (first | with_reducible apply Stp.go | with_reducible refine imp fun _ => ?_ | (with_reducible refine hyp ?_ ?_; first | assumption | exact leftT_mem (by assumption)) | (with_reducible refine need ?_ ?_; first | trivial | omega | exact ⟨by assumption, by omega⟩ | (simp only [List.length_append, List.length_cons, List.length_nil, List.length_map, List.length_take, List.length_drop, List.length_replicate, List.length_set]; omega)) | (with_reducible refine fact ?_ ?_; first | trivial | exact ⟨rfl, rfl⟩ | kernel_rfl) | with_reducible refine choT (by assumption) ?_ | with_reducible refine choF (by assumption) ?_ | with_reducible refine choF' (by assumption) ?_ | (with_reducible refine altT ?_ ?_; first | omega | (simp only [List.length_append, List.length_cons, List.length_nil, List.length_map, List.length_take, List.length_drop, List.length_replicate, List.length_set]; omega)) | with_reducible refine altF ?_ | with_reducible refine all fun _ => ?_ | with_reducible refine both ?_ ?_ | (with_reducible refine choT ?_ ?_; omega) | (with_reducible refine choF ?_ ?_; omega) | with_reducible refine cho (fun _ => ?_) (fun _ => ?_))
      all_goals try rw [hmin]
      repeat' (first | with_reducible apply Stp.go | with_reducible refine imp fun _ => ?_ | (with_reducible refine hyp ?_ ?_; first | assumption | exact leftT_mem (by assumption)) | (with_reducible refine need ?_ ?_; first | trivial | omega | exact ⟨by assumption, by omega⟩ | (simp only [List.length_append, List.length_cons, List.length_nil, List.length_map, List.length_take, List.length_drop, List.length_replicate, List.length_set]; omega)) | (with_reducible refine fact ?_ ?_; first | trivial | exact ⟨rfl, rfl⟩ | kernel_rfl) | with_reducible refine choT (by assumption) ?_ | with_reducible refine choF (by assumption) ?_ | with_reducible refine choF' (by assumption) ?_ | (with_reducible refine altT ?_ ?_; first | omega | (simp only [List.length_append, List.length_cons, List.length_nil, List.length_map, List.length_take, List.length_drop, List.length_replicate, List.length_set]; omega)) | with_reducible refine altF ?_ | with_reducible refine all fun _ => ?_ | with_reducible refine both ?_ ?_ | (with_reducible refine choT ?_ ?_; omega) | (with_reducible refine choF ?_ ?_; omega) | with_reducible refine cho (fun _ => ?_) (fun _ => ?_))
      all_goals try rw [hmin]
      all_goals try rw [Bool.false_or]
      all_goals exact meet _ trivial (subS _)
    · intro b _
      repeat' (first | with_reducible apply Stp.go | with_reducible refine imp fun _ => ?_ | (with_reducible refine hyp ?_ ?_; first | assumption | exact leftT_mem (by assumption)) | (with_reducible refine need ?_ ?_; first | trivial | omega | exact ⟨by assumption, by omega⟩ | (simp only [List.length_append, List.length_cons, List.length_nil, List.length_map, List.length_take, List.length_drop, List.length_replicate, List.length_set]; omega)) | (with_reducible refine fact ?_ ?_; first | trivial | exact ⟨rfl, rfl⟩ | kernel_rfl) | with_reducible refine choT (by assumption) ?_ | with_reducible refine choF (by assumption) ?_ | with_reducible refine choF' (by assumption) ?_ | (with_reducible refine altT ?_ ?_; first | omega | (simp only [List.length_append, List.length_cons, List.length_nil, List.length_map, List.length_take, List.length_drop, List.length_replicate, List.length_set]; omega)) | with_reducible refine altF ?_ | with_reducible refine all fun _ => ?_ | with_reducible refine both ?_ ?_ | (with_reducible refine choT ?_ ?_; omega) | (with_reducible refine choF ?_ ?_; omega) | with_reducible refine cho (fun _ => ?_) (fun _ => ?_))
      refine joinE ?_
      repeat' (first | with_reducible apply Stp.go | with_reducible refine imp fun _ => ?_ | (with_reducible refine hyp ?_ ?_; first | assumption | exact leftT_mem (by assumption)) | (with_reducible refine need ?_ ?_; first | trivial | omega | exact ⟨by assumption, by omega⟩ | (simp only [List.length_append, List.length_cons, List.length_nil, List.length_map, List.length_take, List.length_drop, List.length_replicate, List.length_set]; omega)) | (with_reducible refine fact ?_ ?_; first | trivial | exact ⟨rfl, rfl⟩ | kernel_rfl) | with_reducible refine choT (by assumption) ?_ | with_reducible refine choF (by assumption) ?_ | with_reducible refine choF' (by assumption) ?_ | (with_reducible refine altT ?_ ?_; first | omega | (simp only [List.length_append, List.length_cons, List.length_nil, List.length_map, List.length_take, List.length_drop, List.length_replicate, List.length_set]; omega)) | with_reducible refine altF ?_ | with_reducible refine all fun _ => ?_ | with_reducible refine both ?_ ?_ | (with_reducible refine choT ?_ ?_; omega) | (with_reducible refine choF ?_ ?_; omega) | with_reducible refine cho (fun _ => ?_) (fun _ => ?_))
      all_goals try refine joinE ?_
      repeat' (first | with_reducible apply Stp.go | with_reducible refine imp fun _ => ?_ | (with_reducible refine hyp ?_ ?_; first | assumption | exact leftT_mem (by assumption)) | (with_reducible refine need ?_ ?_; first | trivial | omega | exact ⟨by assumption, by omega⟩ | (simp only [List.length_append, List.length_cons, List.length_nil, List.length_map, List.length_take, List.length_drop, List.length_replicate, List.length_set]; omega)) | (with_reducible refine fact ?_ ?_; first | trivial | exact ⟨rfl, rfl⟩ | kernel_rfl) | with_reducible refine choT (by assumption) ?_ | with_reducible refine choF (by assumption) ?_ | with_reducible refine choF' (by assumption) ?_ | (with_reducible refine altT ?_ ?_; first | omega | (simp only [List.length_append, List.length_cons, List.length_nil, List.length_map, List.length_take, List.length_drop, List.length_replicate, List.length_set]; omega)) | with_reducible refine altF ?_ | with_reducible refine all fun _ => ?_ | with_reducible refine both ?_ ?_ | (with_reducible refine choT ?_ ?_; omega) | (with_reducible refine choF ?_ ?_; omega) | with_reducible refine cho (fun _ => ?_) (fun _ => ?_))
      · rename_i hd hw
        exact ⟨_, _, _, rfl, Sub.app_nil _, p_fail (parse_fail1 hw), rfl⟩
      · rename_i hd hw hr
        exact ⟨_, _, _, rfl, Sub.app_nil _, p_done (by rw [parse_del h0 h1 hd hw, if_pos hr]), rfl⟩
      · rename_i hd hw hr
        exact ⟨_, _, _, rfl, Sub.app_nil _, p_done (by rw [parse_del h0 h1 hd hw, if_pos hr]), rfl⟩
      · rename_i hd hw hr
        exact ⟨_, _, _, rfl, Sub.app_nil _, p_fail (by rw [parse_del h0 h1 hd hw, if_neg hr]), rfl⟩
      · rename_i hd _ hw
        exact ⟨_, _, _, rfl, Sub.app_nil _, p_fail (parse_fail2 hd hw), rfl⟩
      · rename_i hd _ hw hr
        exact ⟨_, _, _, rfl, Sub.app_nil _, p_done (by rw [parse_val h0 h1 hd hw, if_pos hr]), rfl⟩
      · rename_i hd _ hw hr
        exact ⟨_, _, _, rfl, Sub.app_nil _, p_done (by rw [parse_val h0 h1 hd hw, if_pos hr]), rfl⟩
      · rename_i hd _ hw hr
        exact ⟨_, _, _, rfl, Sub.app_nil _, p_fail (by rw [parse_val h0 h1 hd hw, if_neg hr]), rfl⟩
instance {a : AV} {l : List UInt8} {m : SM} [h : IsL a byt 1 l m] : PC Go.Proofs.Try.prog 93 [a] (l.length ≤ 1000000000000000) (.tuple [(parseV l).av, I .i64 (parseN l : Nat), I .i64 (parseX l)]) := ⟨fun hl => ⟨[.lst 1 (l.map byt) m], ⟨h.sub, trivial⟩, entry_Parse_ok l m hl⟩⟩
end Go.Ab

/- The entry of a leaf; what a table has of a key, checked. -/
set_option linter.unusedVariables false
set_option linter.unusedSimpArgs false
namespace Go.Ab
def seek_whole.mark : Mark := ⟨fun t => Nat.beq t 9, fun t => false, fun t => false, fun t => false, fun t => false⟩
def seek_whole.ann : Ann := ⟨fun n => [], fun n => none, fun n => none⟩
/-- 'marlstone/seek.whole' -/
def seek_whole.sh (a0 : AV) (σ : Store) (Q : AEnd → Store → Prop) : Prop :=
  aNewVar 54 [.val (.string ⟨#[]⟩), .val (.string ⟨#[]⟩), .val (.bool false), .val (.int .i64 0)] σ fun t2 σ =>
  Do (aPureC Go.Proofs.Try.prog 93 [a0]) fun t9 =>
  Do (aExt t9 0) fun t10 =>
  Do (aExt t9 1) fun t11 =>
  Do (aExt t9 2) fun t12 =>
  aNewVar 54 [.val (.string ⟨#[]⟩), .val (.string ⟨#[]⟩), .val (.bool false), .val (.int .i64 0)] σ fun t4 σ_1 =>
  storeA 4 t4 t10 σ_1 fun u σ_2 =>
  Do (loadA true 4 t4 σ_2) fun t13 =>
  Do (aBin Go.Proofs.Try.prog .eql 33 t12 (.val (.int .i64 0))) fun t15 =>
  Do (aGuard t15 true (aIs t11)) fun t17 =>
  Do (aGuard t15 true (aIs a0)) fun t18 =>
  Do (aGuard t15 true (aBuiltin Go.Proofs.Try.prog .len #[27] [t18])) fun t19 =>
  Do (aGuard t15 true (aBin Go.Proofs.Try.prog .eql 3 t17 t19)) fun t20 =>
  Do (aPick t15 t20 (.val (.bool false))) fun t21 =>
  storeA 4 t2 t13 σ_2 fun u_1 σ_3 =>
  Do (loadA true 4 t2 σ_3) fun r2 => Q (.ret (.tuple [r2, t21])) σ_3
theorem seek_whole.eq (a0 : AV) (σ : Store) (Q : AEnd → Store → Prop) : vc (semOf Go.Proofs.Try.prog seek_whole.mark) Go.Proofs.Try.f52.ntmps seek_whole.ann (bodyOf Go.Proofs.Try.f52) (endK [.cell 2 true 4, .tmp 3] Q) (argFr [a0]) σ = seek_whole.sh a0 σ Q := by kernel_rfl
theorem seek_whole.go {a0 : AV} {σ : Store} {Q : AEnd → Store → Prop} (h : seek_whole.sh a0 σ Q) : ACalls Go.Proofs.Try.prog 52 [a0] σ Q :=
  acalls_of_eq [.cell 2 true 4, .tmp 3] Go.Proofs.Try.func52 (by kernel_rfl) (by kernel_rfl) (by kernel_rfl) (by kernel_rfl) (seek_whole.eq a0 σ Q) h
def seek_none.mark : Mark := ⟨fun t => false, fun t => false, fun t => Nat.beq t 1, fun t => Nat.beq t 4 || Nat.beq t 8 || Nat.beq t 14, fun t => false⟩
def seek_none.ann : Ann := ⟨fun n => [], fun n => none, fun n => none⟩
/-- 'marlstone/seek.none' -/
def seek_none.sh (a0 : AV) (σ : Store) (Q : AEnd → Store → Prop) : Prop :=
  Do (aFreeze ((a0 : AV)).cells) fun t1 =>
  Do (aFieldAddr 0 1 t1) fun t3 =>
  Do (loadF false 1 t3) fun t4 =>
  Do (aBin Go.Proofs.Try.prog .eql 3 t4 (.val (.int .i64 0))) fun t5 =>
  Do (aGuard t5 true (aFieldAddr 1 1 t1)) fun t7 =>
  Do (aGuard t5 true (loadF false 1 t7)) fun t8 =>
  Do (aGuard t5 true (aBuiltin Go.Proofs.Try.prog .len #[27] [t8])) fun t9 =>
  Do (aGuard t5 true (aBin Go.Proofs.Try.prog .eql 3 t9 (.val (.int .i64 0)))) fun t10 =>
  Do (aPick t5 t10 (.val (.bool false))) fun t11 =>
  Do (aGuard t11 true (aFieldAddr 2 1 t1)) fun t13 =>
  Do (aGuard t11 true (loadF false 1 t13)) fun t14 =>
  Do (aGuard t11 true (aBuiltin Go.Proofs.Try.prog .len #[28] [t14])) fun t15 =>
  Do (aGuard t11 true (aBin Go.Proofs.Try.prog .eql 3 t15 (.val (.int .i64 0)))) fun t16 =>
  Do (aPick t11 t16 (.val (.bool false))) fun t17 =>
  Q (.ret t17) σ
theorem seek_none.eq (a0 : AV) (σ : Store) (Q : AEnd → Store → Prop) : vc (semOf Go.Proofs.Try.prog seek_none.mark) Go.Proofs.Try.f50.ntmps seek_none.ann (bodyOf Go.Proofs.Try.f50) (endK [.tmp 2] Q) (argFr [a0]) σ = seek_none.sh a0 σ Q := by kernel_rfl
theorem seek_none.go {a0 : AV} {σ : Store} {Q : AEnd → Store → Prop} (h : seek_none.sh a0 σ Q) : ACalls Go.Proofs.Try.prog 50 [a0] σ Q :=
  acalls_of_eq [.tmp 2] Go.Proofs.Try.func50 (by kernel_rfl) (by kernel_rfl) (by kernel_rfl) (by kernel_rfl) (seek_none.eq a0 σ Q) h
theorem none_ok (o : Opn) : aPure Go.Proofs.Try.prog 50 [.agg [I .i64 o.1, bl o.2.1, .lst 32 (o.2.2.map dgF) .ro]] (B (decide (o.1 = 0 ∧ o.2.1.length = 0 ∧ o.2.2.length = 0))) := by
  refine ACalls.fin (seek_none.go ?_)
  unfold seek_none.sh
  repeat' (first | with_reducible apply Stp.go | with_reducible refine imp fun _ => ?_ | (with_reducible refine hyp ?_ ?_; first | assumption | exact leftT_mem (by assumption)) | (with_reducible refine need ?_ ?_; first | trivial | omega | exact ⟨by assumption, by omega⟩ | (simp only [List.length_append, List.length_cons, List.length_nil, List.length_map, List.length_take, List.length_drop, List.length_replicate, List.length_set]; omega)) | (with_reducible refine fact ?_ ?_; first | trivial | exact ⟨rfl, rfl⟩ | kernel_rfl) | with_reducible refine choT (by assumption) ?_ | with_reducible refine choF (by assumption) ?_ | with_reducible refine choF' (by assumption) ?_ | (with_reducible refine altT ?_ ?_; first | omega | (simp only [List.length_append, List.length_cons, List.length_nil, List.length_map, List.length_take, List.length_drop, List.length_replicate, List.length_set]; omega)) | with_reducible refine altF ?_ | with_reducible refine all fun _ => ?_ | with_reducible refine both ?_ ?_ | (with_reducible refine choT ?_ ?_; omega) | (with_reducible refine choF ?_ ?_; omega) | with_reducible refine cho (fun _ => ?_) (fun _ => ?_))
  all_goals
    refine ⟨_, _, _, rfl, Sub.app_nil _, ?_, rfl⟩
    simp_all
instance {o : Opn} : PC Go.Proofs.Try.prog 50 [.agg [I .i64 o.1, bl o.2.1, .lst 32 (o.2.2.map dgF) .ro]] True (B (decide (o.1 = 0 ∧ o.2.1.length = 0 ∧ o.2.2.length = 0))) := ⟨fun _ => PC.of (none_ok o)⟩
/-- Bytes are one entry, whole. -/
def wholeB (l : List UInt8) : Bool := decide (parseX l = 0) && decide (parseN l = l.length)
theorem whole_ok (l : List UInt8) (m : SM) (hl : l.length ≤ 100000000000000) : aPure Go.Proofs.Try.prog 52 [.lst 1 (l.map byt) m] (.tuple [(parseV l).av, B (wholeB l)]) := by
  refine ACalls.fin (seek_whole.go ?_)
  unfold seek_whole.sh
  repeat' (first | with_reducible apply Stp.go | with_reducible refine imp fun _ => ?_ | (with_reducible refine hyp ?_ ?_; first | assumption | exact leftT_mem (by assumption)) | (with_reducible refine need ?_ ?_; first | trivial | omega | exact ⟨by assumption, by omega⟩ | (simp only [List.length_append, List.length_cons, List.length_nil, List.length_map, List.length_take, List.length_drop, List.length_replicate, List.length_set]; omega)) | (with_reducible refine fact ?_ ?_; first | trivial | exact ⟨rfl, rfl⟩ | kernel_rfl) | with_reducible refine choT (by assumption) ?_ | with_reducible refine choF (by assumption) ?_ | with_reducible refine choF' (by assumption) ?_ | (with_reducible refine altT ?_ ?_; first | omega | (simp only [List.length_append, List.length_cons, List.length_nil, List.length_map, List.length_take, List.length_drop, List.length_replicate, List.length_set]; omega)) | with_reducible refine altF ?_ | with_reducible refine all fun _ => ?_ | with_reducible refine both ?_ ?_ | (with_reducible refine choT ?_ ?_; omega) | (with_reducible refine choF ?_ ?_; omega) | with_reducible refine cho (fun _ => ?_) (fun _ => ?_))
  · rename_i h
    refine ⟨_, _, _, rfl, Sub.app_nil _, ?_, rfl⟩
    rw [wholeB, decide_eq_true h, Bool.true_and]
  · rename_i h
    refine ⟨_, _, _, rfl, Sub.app_nil _, ?_, rfl⟩
    rw [wholeB, decide_eq_false h, Bool.false_and]
instance {a : AV} {l : List UInt8} {m : SM} [h : IsL a byt 1 l m] : PC Go.Proofs.Try.prog 52 [a] (l.length ≤ 100000000000000) (.tuple [(parseV l).av, B (wholeB l)]) := ⟨fun hl => ⟨[.lst 1 (l.map byt) m], ⟨h.sub, trivial⟩, whole_ok l m hl⟩⟩
def seek_holds.mark : Mark := ⟨fun t => Nat.beq t 13 || Nat.beq t 30, fun t => false, fun t => Nat.beq t 3 || Nat.beq t 4 || Nat.beq t 5, fun t => Nat.beq t 12 || Nat.beq t 19 || Nat.beq t 21 || Nat.beq t 23 || Nat.beq t 25 || Nat.beq t 27 || Nat.beq t 29, fun t => false⟩
def seek_holds.ann : Ann := ⟨fun n => [], fun n => none, fun n => none⟩
/-- 'marlstone/seek.holds' -/
def seek_holds.sh (a0 a1 a2 : AV) (σ : Store) (Q : AEnd → Store → Prop) : Prop :=
  Do (aFreeze ((a0 : AV)).cells) fun t3 =>
  Do (aFreeze ((a1 : AV)).cells) fun t4 =>
  Do (aFreeze ((a2 : AV)).cells) fun t5 =>
  aNewVar 54 [.val (.string ⟨#[]⟩), .val (.string ⟨#[]⟩), .val (.bool false), .val (.int .i64 0)] σ fun t6 σ =>
  Do (aFieldAddr 1 1 t5) fun t11 =>
  Do (loadF false 1 t11) fun t12 =>
  Do (aPureC Go.Proofs.Try.prog 52 [t12]) fun t13 =>
  Do (aExt t13 0) fun t14 =>
  Do (aExt t13 1) fun t15 =>
  aNewVar 54 [.val (.string ⟨#[]⟩), .val (.string ⟨#[]⟩), .val (.bool false), .val (.int .i64 0)] σ fun t8 σ_1 =>
  storeA 4 t8 t14 σ_1 fun u σ_2 =>
  Do (loadA true 4 t8 σ_2) fun t16 =>
  Do (aGuard t15 true (loadF true 1 t3)) fun t19 =>
  Do (aGuard t15 true (aFieldAddr 2 32 t4)) fun t20 =>
  Do (aGuard t15 true (loadF true 32 t20)) fun t21 =>
  Do (aGuard t15 true (aFieldAddr 1 1 t4)) fun t22 =>
  Do (aGuard t15 true (loadF false 1 t22)) fun t23 =>
  Do (aGuard t15 true (aFieldAddr 0 1 t5)) fun t24 =>
  Do (aGuard t15 true (loadF false 1 t24)) fun t25 =>
  Do (aGuard t15 true (aFieldAddr 1 1 t5)) fun t26 =>
  Do (aGuard t15 true (loadF false 1 t26)) fun t27 =>
  Do (aGuard t15 true (aFieldAddr 2 1 t5)) fun t28 =>
  Do (aGuard t15 true (loadF false 1 t28)) fun t29 =>
  Do (aGuard t15 true (aPureC Go.Proofs.Try.prog 64 [t19, t21, t23, t25, t27, t29])) fun t30 =>
  Do (aPick t15 t30 (.val (.bool false))) fun t31 =>
  storeA 4 t6 t16 σ_2 fun u_1 σ_3 =>
  Do (loadA true 4 t6 σ_3) fun r6 => Q (.ret (.tuple [r6, t31])) σ_3
theorem seek_holds.eq (a0 a1 a2 : AV) (σ : Store) (Q : AEnd → Store → Prop) : vc (semOf Go.Proofs.Try.prog seek_holds.mark) Go.Proofs.Try.f49.ntmps seek_holds.ann (bodyOf Go.Proofs.Try.f49) (endK [.cell 6 true 4, .tmp 7] Q) (argFr [a0, a1, a2]) σ = seek_holds.sh a0 a1 a2 σ Q := by kernel_rfl
theorem seek_holds.go {a0 a1 a2 : AV} {σ : Store} {Q : AEnd → Store → Prop} (h : seek_holds.sh a0 a1 a2 σ Q) : ACalls Go.Proofs.Try.prog 49 [a0, a1, a2] σ Q :=
  acalls_of_eq [.cell 6 true 4, .tmp 7] Go.Proofs.Try.func49 (by kernel_rfl) (by kernel_rfl) (by kernel_rfl) (by kernel_rfl) (seek_holds.eq a0 a1 a2 σ Q) h
def holdsB (b : Int) (root : D32) (cnt i : Int) (leaf : List UInt8) (path : List D32) : Bool := wholeB leaf && checkZ b root cnt i leaf path
theorem holdsB_in {b : Int} {root : D32} {cnt i : Int} {leaf : List UInt8} {path : List D32} (h : holdsB b root cnt i leaf path = true) : 0 ≤ i ∧ i < cnt := by
  unfold holdsB at h
  rw [Bool.and_eq_true] at h
  exact checkZ_in h.2
theorem holds_ok (b lev cnt i : Int) (d f g leaf : List UInt8) [hd : Len32 d] (path : List D32) (hc : cnt ≤ 9223372036854775807) (hl : leaf.length ≤ 100000000000000) : aPure Go.Proofs.Try.prog 49 [trA b, tabA lev cnt d f g, .agg [I .i64 i, bl leaf, .lst 32 (path.map dgF) .ro]] (.tuple [(parseV leaf).av, B (holdsB b ⟨d, hd.len⟩ cnt i leaf path)]) := by
  refine ACalls.fin (seek_holds.go ?_)
  unfold seek_holds.sh
  cases hw : wholeB leaf with
  | true =>
    have ht : (true : Bool) = true := rfl
    repeat' (first | with_reducible apply Stp.go | with_reducible refine imp fun _ => ?_ | (with_reducible refine hyp ?_ ?_; first | assumption | exact leftT_mem (by assumption)) | (with_reducible refine need ?_ ?_; first | trivial | omega | exact ⟨by assumption, by omega⟩ | (simp only [List.length_append, List.length_cons, List.length_nil, List.length_map, List.length_take, List.length_drop, List.length_replicate, List.length_set]; omega)) | (with_reducible refine fact ?_ ?_; first | trivial | exact ⟨rfl, rfl⟩ | kernel_rfl) | with_reducible refine choT (by assumption) ?_ | with_reducible refine choF (by assumption) ?_ | with_reducible refine choF' (by assumption) ?_ | (with_reducible refine altT ?_ ?_; first | omega | (simp only [List.length_append, List.length_cons, List.length_nil, List.length_map, List.length_take, List.length_drop, List.length_replicate, List.length_set]; omega)) | with_reducible refine altF ?_ | with_reducible refine all fun _ => ?_ | with_reducible refine both ?_ ?_ | (with_reducible refine choT ?_ ?_; omega) | (with_reducible refine choF ?_ ?_; omega) | with_reducible refine cho (fun _ => ?_) (fun _ => ?_))
    refine ⟨_, _, _, rfl, Sub.app_nil _, ?_, rfl⟩
    rw [holdsB, hw, Bool.true_and]
  | false =>
    have hff : ¬ (false : Bool) = true := by decide
    repeat' (first | with_reducible apply Stp.go | with_reducible refine imp fun _ => ?_ | (with_reducible refine hyp ?_ ?_; first | assumption | exact leftT_mem (by assumption)) | (with_reducible refine need ?_ ?_; first | trivial | omega | exact ⟨by assumption, by omega⟩ | (simp only [List.length_append, List.length_cons, List.length_nil, List.length_map, List.length_take, List.length_drop, List.length_replicate, List.length_set]; omega)) | (with_reducible refine fact ?_ ?_; first | trivial | exact ⟨rfl, rfl⟩ | kernel_rfl) | with_reducible refine choT (by assumption) ?_ | with_reducible refine choF (by assumption) ?_ | with_reducible refine choF' (by assumption) ?_ | (with_reducible refine altT ?_ ?_; first | omega | (simp only [List.length_append, List.length_cons, List.length_nil, List.length_map, List.length_take, List.length_drop, List.length_replicate, List.length_set]; omega)) | with_reducible refine altF ?_ | with_reducible refine all fun _ => ?_ | with_reducible refine both ?_ ?_ | (with_reducible refine choT ?_ ?_; omega) | (with_reducible refine choF ?_ ?_; omega) | with_reducible refine cho (fun _ => ?_) (fun _ => ?_))
    refine ⟨_, _, _, rfl, Sub.app_nil _, ?_, rfl⟩
    rw [holdsB, hw, Bool.false_and]
instance {b lev cnt i : Int} {d f g leaf : List UInt8} [hd : Len32 d] {path : List D32} : PC Go.Proofs.Try.prog 49 [trA b, tabA lev cnt d f g, .agg [I .i64 i, bl leaf, .lst 32 (path.map dgF) .ro]] (cnt ≤ 9223372036854775807 ∧ leaf.length ≤ 100000000000000) (.tuple [(parseV leaf).av, B (holdsB b ⟨d, hd.len⟩ cnt i leaf path)]) := ⟨fun hl => PC.of (holds_ok b lev cnt i d f g leaf path hl.1 hl.2)⟩
end Go.Ab

/- What a table has of a key, checked. -/
set_option linter.unusedVariables false
set_option linter.unusedSimpArgs false
namespace Go.Ab
section pts
variable {bt : Bool} {x y : Opn} {lev cnt : Int} {d f g : List UInt8} {K : AV → Prop}
abbrev ptCs (bt : Bool) (x y : Opn) : List AV := [B bt, I .i64 x.1, bl x.2.1, .lst 32 (x.2.2.map dgF) .ro, I .i64 y.1, bl y.2.1, .lst 32 (y.2.2.map dgF) .ro]
abbrev opCs (x : Opn) : List AV := [I .i64 x.1, bl x.2.1, .lst 32 (x.2.2.map dgF) .ro]
instance (priority := 75) faPtA : Stp (Do (aFieldAddr 1 3 (.rptr (ptCs bt x y))) K) (K (.rptr (opCs x))) := ⟨fun hK => ⟨_, ⟨by decide, by simp, rfl⟩, hK⟩⟩
instance (priority := 75) faPtB : Stp (Do (aFieldAddr 4 3 (.rptr (ptCs bt x y))) K) (K (.rptr (opCs y))) := ⟨fun hK => ⟨_, ⟨by decide, by simp, rfl⟩, hK⟩⟩
instance (priority := 75) ldOpn : Stp (Do (loadF true 3 (.rptr (opCs x))) K) (K (.agg (opCs x))) := ⟨fun hK => ⟨_, ⟨by decide, fun h => by (cases h), by simp, rfl⟩, hK⟩⟩
instance (priority := 75) ldTabF [hd : Len32 d] : Stp (Do (loadF true 36 (.rptr (tabCs lev cnt d f g))) K) (K (tabA lev cnt d f g)) := ⟨fun hK => ⟨_, ⟨by decide, fun h => by (cases h), by rw [tabCs_len]; decide, by
  rw [List.take_of_length_le (by rw [tabCs_len]; decide)]; rfl⟩, hK⟩⟩
end pts
theorem lt_flip (a b : List UInt8) : lt a b = !(lt b a || decide (b = a)) := by
  cases h : lt a b with
  | true => rw [lt_asymm h, decide_eq_false (fun e => lt_ne h e.symm)]; rfl
  | false =>
    cases h2 : lt b a with
    | true => rfl
    | false => rw [lt_tri h2 h]; simp
/-- What is told of a key: an error, whether it is there, the entry. -/
def seekC (b : Int) (root : D32) (cnt : Int) (f g k : List UInt8) (bt : Bool) (x y : Opn) : Nat × Bool × En :=
  if holdsB b root cnt x.1 x.2.1 x.2.2 = true ∧ coversB f g k = true then
    if bt = true then
      if holdsB b root cnt y.1 y.2.1 y.2.2 = true ∧ y.1 - 1 = x.1 ∧ lt (parseV x.2.1).key k = true ∧ lt k (parseV y.2.1).key = true then (0, false, En.zero) else (8, false, En.zero)
    else if (parseV x.2.1).key = k ∧ (y.1 = 0 ∧ y.2.1.length = 0 ∧ y.2.2.length = 0) then (0, true, parseV x.2.1) else (8, false, En.zero)
  else (8, false, En.zero)
def seek_Check.mark : Mark := ⟨fun t => Nat.beq t 20 || Nat.beq t 28 || Nat.beq t 42 || Nat.beq t 52, fun t => false, fun t => Nat.beq t 4 || Nat.beq t 5 || Nat.beq t 7, fun t => Nat.beq t 16 || Nat.beq t 17 || Nat.beq t 19 || Nat.beq t 26 || Nat.beq t 33 || Nat.beq t 41 || Nat.beq t 48 || Nat.beq t 49 || Nat.beq t 51 || Nat.beq t 60 || Nat.beq t 64, fun t => false⟩
def seek_Check.ann : Ann := ⟨fun n => [], fun n => none, fun n => none⟩
/-- 'marlstone/seek.Check' -/
def seek_Check.sh (a0 a1 a2 a3 : AV) (σ : Store) (Q : AEnd → Store → Prop) : Prop :=
  Do (aFreeze ((a0 : AV)).cells) fun t4 =>
  Do (aFreeze ((a1 : AV)).cells) fun t5 =>
  Do (aFreeze ((a3 : AV)).cells) fun t7 =>
  aNewVar 54 [.val (.string ⟨#[]⟩), .val (.string ⟨#[]⟩), .val (.bool false), .val (.int .i64 0)] σ fun t8 σ =>
  Do (loadF true 1 t4) fun t16 =>
  Do (loadF true 36 t5) fun t17 =>
  Do (aFieldAddr 1 3 t7) fun t18 =>
  Do (loadF true 3 t18) fun t19 =>
  Do (aPureC Go.Proofs.Try.prog 49 [t16, t17, t19]) fun t20 =>
  Do (aExt t20 0) fun t21 =>
  Do (aExt t20 1) fun t22 =>
  aNewVar 54 [.val (.string ⟨#[]⟩), .val (.string ⟨#[]⟩), .val (.bool false), .val (.int .i64 0)] σ fun t11 σ_1 =>
  storeA 4 t11 t21 σ_1 fun u σ_2 =>
  Do (aUn Go.Proofs.Try.prog .not t22) fun t24 =>
  Do (aGuard t24 false (loadF true 36 t5)) fun t26 =>
  Do (aGuard t24 false (aIs a2)) fun t27 =>
  Do (aGuard t24 false (aPureC Go.Proofs.Try.prog 18 [t26, t27])) fun t28 =>
  Do (aGuard t24 false (aUn Go.Proofs.Try.prog .not t28)) fun t29 =>
  Do (aPick t24 (.val (.bool true)) t29) fun t30 =>
  aCond t30
    (Do (aLit [.val (.string ⟨#[]⟩), .val (.string ⟨#[]⟩), .val (.bool false), .val (.int .i64 0)] [(0, 1), (1, 1), (2, 1), (3, 1)] []) fun t31 =>
    storeA 4 t8 t31 σ_2 fun u_1 σ_3 =>
    Do (loadA true 4 t8 σ_3) fun r8 => Q (.ret (.tuple [r8, (.val (.bool false)), (.val (.int .i64 8))])) σ_3)
    (Do (aFieldAddr 0 1 t7) fun t32 =>
  Do (loadF false 1 t32) fun t33 =>
  Do (aUn Go.Proofs.Try.prog .not t33) fun t34 =>
  aCond t34
    (Do (aFieldAddr 0 1 t11) fun t35 =>
    Do (loadA false 1 t35 σ_2) fun t36 =>
    Do (aBin Go.Proofs.Try.prog .neq 9 t36 a2) fun t38 =>
    Do (aGuard t38 false (aFieldAddr 4 3 t7)) fun t40 =>
    Do (aGuard t38 false (loadF true 3 t40)) fun t41 =>
    Do (aGuard t38 false (aPureC Go.Proofs.Try.prog 50 [t41])) fun t42 =>
    Do (aGuard t38 false (aUn Go.Proofs.Try.prog .not t42)) fun t43 =>
    Do (aPick t38 (.val (.bool true)) t43) fun t44 =>
    aCond t44
      (Do (aLit [.val (.string ⟨#[]⟩), .val (.string ⟨#[]⟩), .val (.bool false), .val (.int .i64 0)] [(0, 1), (1, 1), (2, 1), (3, 1)] []) fun t45 =>
      storeA 4 t8 t45 σ_2 fun u_2 σ_4 =>
      Do (loadA true 4 t8 σ_4) fun r8_1 => Q (.ret (.tuple [r8_1, (.val (.bool false)), (.val (.int .i64 8))])) σ_4)
      (Do (loadA true 4 t11 σ_2) fun t46 =>
    storeA 4 t8 t46 σ_2 fun u_3 σ_5 =>
    Do (loadA true 4 t8 σ_5) fun r8_2 => Q (.ret (.tuple [r8_2, (.val (.bool true)), (.val (.int .i64 0))])) σ_5))
    (Do (loadF true 1 t4) fun t48 =>
  Do (loadF true 36 t5) fun t49 =>
  Do (aFieldAddr 4 3 t7) fun t50 =>
  Do (loadF true 3 t50) fun t51 =>
  Do (aPureC Go.Proofs.Try.prog 49 [t48, t49, t51]) fun t52 =>
  Do (aExt t52 0) fun t53 =>
  Do (aExt t52 1) fun t54 =>
  aNewVar 54 [.val (.string ⟨#[]⟩), .val (.string ⟨#[]⟩), .val (.bool false), .val (.int .i64 0)] σ_2 fun t13 σ_6 =>
  storeA 4 t13 t53 σ_6 fun u_4 σ_7 =>
  Do (aUn Go.Proofs.Try.prog .not t54) fun t56 =>
  Do (aGuard t56 false (aFieldAddr 4 3 t7)) fun t58 =>
  Do (aGuard t56 false (aFieldAddr 0 1 t58)) fun t59 =>
  Do (aGuard t56 false (loadF false 1 t59)) fun t60 =>
  Do (aGuard t56 false (aBin Go.Proofs.Try.prog .sub 3 t60 (.val (.int .i64 1)))) fun t61 =>
  Do (aGuard t56 false (aFieldAddr 1 3 t7)) fun t62 =>
  Do (aGuard t56 false (aFieldAddr 0 1 t62)) fun t63 =>
  Do (aGuard t56 false (loadF false 1 t63)) fun t64 =>
  Do (aGuard t56 false (aBin Go.Proofs.Try.prog .neq 3 t61 t64)) fun t65 =>
  Do (aPick t56 (.val (.bool true)) t65) fun t66 =>
  Do (aGuard t66 false (aFieldAddr 0 1 t11)) fun t68 =>
  Do (aGuard t66 false (loadA false 1 t68 σ_7)) fun t69 =>
  Do (aGuard t66 false (aIs a2)) fun t70 =>
  Do (aGuard t66 false (aBin Go.Proofs.Try.prog .geq 9 t69 t70)) fun t71 =>
  Do (aPick t66 (.val (.bool true)) t71) fun t72 =>
  Do (aGuard t72 false (aFieldAddr 0 1 t13)) fun t74 =>
  Do (aGuard t72 false (loadA false 1 t74 σ_7)) fun t75 =>
  Do (aGuard t72 false (aIs a2)) fun t76 =>
  Do (aGuard t72 false (aBin Go.Proofs.Try.prog .leq 9 t75 t76)) fun t77 =>
  Do (aPick t72 (.val (.bool true)) t77) fun t78 =>
  aCond t78
    (Do (aLit [.val (.string ⟨#[]⟩), .val (.string ⟨#[]⟩), .val (.bool false), .val (.int .i64 0)] [(0, 1), (1, 1), (2, 1), (3, 1)] []) fun t79 =>
    storeA 4 t8 t79 σ_7 fun u_5 σ_8 =>
    Do (loadA true 4 t8 σ_8) fun r8_3 => Q (.ret (.tuple [r8_3, (.val (.bool false)), (.val (.int .i64 8))])) σ_8)
    (Do (aLit [.val (.string ⟨#[]⟩), .val (.string ⟨#[]⟩), .val (.bool false), .val (.int .i64 0)] [(0, 1), (1, 1), (2, 1), (3, 1)] []) fun t80 =>
  storeA 4 t8 t80 σ_7 fun u_6 σ_9 =>
  Do (loadA true 4 t8 σ_9) fun r8_4 => Q (.ret (.tuple [r8_4, (.val (.bool false)), (.val (.int .i64 0))])) σ_9)))
theorem seek_Check.eq (a0 a1 a2 a3 : AV) (σ : Store) (Q : AEnd → Store → Prop) : vc (semOf Go.Proofs.Try.prog seek_Check.mark) Go.Proofs.Try.f23.ntmps seek_Check.ann (bodyOf Go.Proofs.Try.f23) (endK [.cell 8 true 4, .tmp 9, .tmp 10] Q) (argFr [a0, a1, a2, a3]) σ = seek_Check.sh a0 a1 a2 a3 σ Q := by kernel_rfl
theorem seek_Check.go {a0 a1 a2 a3 : AV} {σ : Store} {Q : AEnd → Store → Prop} (h : seek_Check.sh a0 a1 a2 a3 σ Q) : ACalls Go.Proofs.Try.prog 23 [a0, a1, a2, a3] σ Q :=
  acalls_of_eq [.cell 8 true 4, .tmp 9, .tmp 10] Go.Proofs.Try.func23 (by kernel_rfl) (by kernel_rfl) (by kernel_rfl) (by kernel_rfl) (seek_Check.eq a0 a1 a2 a3 σ Q) h
theorem seekCheck_ok (b lev cnt : Int) (d f g k : List UInt8) [hd : Len32 d] (bt : Bool) (x y : Opn) (hc : cnt ≤ 9223372036854775807) (h1 : x.2.1.length ≤ 100000000000000) (h2 : y.2.1.length ≤ 100000000000000) :
    aPure Go.Proofs.Try.prog 23 [trA b, tabA lev cnt d f g, S k, ptA bt x y] (.tuple [(seekC b ⟨d, hd.len⟩ cnt f g k bt x y).2.2.av, B (seekC b ⟨d, hd.len⟩ cnt f g k bt x y).2.1, I .i64 ((seekC b ⟨d, hd.len⟩ cnt f g k bt x y).1 : Nat)]) := by
  refine ACalls.fin (seek_Check.go ?_)
  unfold seek_Check.sh
  unfold seekC
  have ht : (true : Bool) = true := rfl
  have hff : ¬ (false : Bool) = true := by decide
  cases hA : holdsB b ⟨d, hd.len⟩ cnt x.1 x.2.1 x.2.2 with
  | false =>
    rw [if_neg (fun h => hff h.1)]
    repeat' (first | with_reducible apply Stp.go | with_reducible refine imp fun _ => ?_ | (with_reducible refine hyp ?_ ?_; first | assumption | exact leftT_mem (by assumption)) | (with_reducible refine need ?_ ?_; first | trivial | omega | exact ⟨by assumption, by omega⟩ | (simp only [List.length_append, List.length_cons, List.length_nil, List.length_map, List.length_take, List.length_drop, List.length_replicate, List.length_set]; omega)) | (with_reducible refine fact ?_ ?_; first | trivial | exact ⟨rfl, rfl⟩ | kernel_rfl) | with_reducible refine choT (by assumption) ?_ | with_reducible refine choF (by assumption) ?_ | with_reducible refine choF' (by assumption) ?_ | (with_reducible refine altT ?_ ?_; first | omega | (simp only [List.length_append, List.length_cons, List.length_nil, List.length_map, List.length_take, List.length_drop, List.length_replicate, List.length_set]; omega)) | with_reducible refine altF ?_ | with_reducible refine all fun _ => ?_ | with_reducible refine both ?_ ?_ | (with_reducible refine choT ?_ ?_; omega) | (with_reducible refine choF ?_ ?_; omega) | with_reducible refine cho (fun _ => ?_) (fun _ => ?_))
    all_goals exact ⟨_, _, _, rfl, Sub.app_nil _, rfl, rfl⟩
  | true =>
    cases hC : coversB f g k with
    | false =>
      rw [if_neg (fun h => hff h.2)]
      repeat' (first | with_reducible apply Stp.go | with_reducible refine imp fun _ => ?_ | (with_reducible refine hyp ?_ ?_; first | assumption | exact leftT_mem (by assumption)) | (with_reducible refine need ?_ ?_; first | trivial | omega | exact ⟨by assumption, by omega⟩ | (simp only [List.length_append, List.length_cons, List.length_nil, List.length_map, List.length_take, List.length_drop, List.length_replicate, List.length_set]; omega)) | (with_reducible refine fact ?_ ?_; first | trivial | exact ⟨rfl, rfl⟩ | kernel_rfl) | with_reducible refine choT (by assumption) ?_ | with_reducible refine choF (by assumption) ?_ | with_reducible refine choF' (by assumption) ?_ | (with_reducible refine altT ?_ ?_; first | omega | (simp only [List.length_append, List.length_cons, List.length_nil, List.length_map, List.length_take, List.length_drop, List.length_replicate, List.length_set]; omega)) | with_reducible refine altF ?_ | with_reducible refine all fun _ => ?_ | with_reducible refine both ?_ ?_ | (with_reducible refine choT ?_ ?_; omega) | (with_reducible refine choF ?_ ?_; omega) | with_reducible refine cho (fun _ => ?_) (fun _ => ?_))
      all_goals exact ⟨_, _, _, rfl, Sub.app_nil _, rfl, rfl⟩
    | true =>
      rw [if_pos ⟨ht, ht⟩]
      cases bt with
      | false =>
        rw [if_neg hff]
        repeat' (first | with_reducible apply Stp.go | with_reducible refine imp fun _ => ?_ | (with_reducible refine hyp ?_ ?_; first | assumption | exact leftT_mem (by assumption)) | (with_reducible refine need ?_ ?_; first | trivial | omega | exact ⟨by assumption, by omega⟩ | (simp only [List.length_append, List.length_cons, List.length_nil, List.length_map, List.length_take, List.length_drop, List.length_replicate, List.length_set]; omega)) | (with_reducible refine fact ?_ ?_; first | trivial | exact ⟨rfl, rfl⟩ | kernel_rfl) | with_reducible refine choT (by assumption) ?_ | with_reducible refine choF (by assumption) ?_ | with_reducible refine choF' (by assumption) ?_ | (with_reducible refine altT ?_ ?_; first | omega | (simp only [List.length_append, List.length_cons, List.length_nil, List.length_map, List.length_take, List.length_drop, List.length_replicate, List.length_set]; omega)) | with_reducible refine altF ?_ | with_reducible refine all fun _ => ?_ | with_reducible refine both ?_ ?_ | (with_reducible refine choT ?_ ?_; omega) | (with_reducible refine choF ?_ ?_; omega) | with_reducible refine cho (fun _ => ?_) (fun _ => ?_))
        all_goals
          refine ⟨_, _, _, rfl, Sub.app_nil _, ?_, rfl⟩
          first
          | (rw [if_pos (by simp_all)]; rfl)
          | (rw [if_neg (by simp_all)]; rfl)
      | true =>
        rw [if_pos ht]
        cases hB : holdsB b ⟨d, hd.len⟩ cnt y.1 y.2.1 y.2.2 with
        | false =>
          rw [if_neg (fun h => hff h.1)]
          repeat' (first | with_reducible apply Stp.go | with_reducible refine imp fun _ => ?_ | (with_reducible refine hyp ?_ ?_; first | assumption | exact leftT_mem (by assumption)) | (with_reducible refine need ?_ ?_; first | trivial | omega | exact ⟨by assumption, by omega⟩ | (simp only [List.length_append, List.length_cons, List.length_nil, List.length_map, List.length_take, List.length_drop, List.length_replicate, List.length_set]; omega)) | (with_reducible refine fact ?_ ?_; first | trivial | exact ⟨rfl, rfl⟩ | kernel_rfl) | with_reducible refine choT (by assumption) ?_ | with_reducible refine choF (by assumption) ?_ | with_reducible refine choF' (by assumption) ?_ | (with_reducible refine altT ?_ ?_; first | omega | (simp only [List.length_append, List.length_cons, List.length_nil, List.length_map, List.length_take, List.length_drop, List.length_replicate, List.length_set]; omega)) | with_reducible refine altF ?_ | with_reducible refine all fun _ => ?_ | with_reducible refine both ?_ ?_ | (with_reducible refine choT ?_ ?_; omega) | (with_reducible refine choF ?_ ?_; omega) | with_reducible refine cho (fun _ => ?_) (fun _ => ?_))
          all_goals exact ⟨_, _, _, rfl, Sub.app_nil _, rfl, rfl⟩
        | true =>
          obtain ⟨b1, b2⟩ := holdsB_in hB
          rw [lt_flip k (parseV y.2.1).key]
          repeat' (first | with_reducible apply Stp.go | with_reducible refine imp fun _ => ?_ | (with_reducible refine hyp ?_ ?_; first | assumption | exact leftT_mem (by assumption)) | (with_reducible refine need ?_ ?_; first | trivial | omega | exact ⟨by assumption, by omega⟩ | (simp only [List.length_append, List.length_cons, List.length_nil, List.length_map, List.length_take, List.length_drop, List.length_replicate, List.length_set]; omega)) | (with_reducible refine fact ?_ ?_; first | trivial | exact ⟨rfl, rfl⟩ | kernel_rfl) | with_reducible refine choT (by assumption) ?_ | with_reducible refine choF (by assumption) ?_ | with_reducible refine choF' (by assumption) ?_ | (with_reducible refine altT ?_ ?_; first | omega | (simp only [List.length_append, List.length_cons, List.length_nil, List.length_map, List.length_take, List.length_drop, List.length_replicate, List.length_set]; omega)) | with_reducible refine altF ?_ | with_reducible refine all fun _ => ?_ | with_reducible refine both ?_ ?_ | (with_reducible refine choT ?_ ?_; omega) | (with_reducible refine choF ?_ ?_; omega) | with_reducible refine cho (fun _ => ?_) (fun _ => ?_))
          all_goals
            refine ⟨_, _, _, rfl, Sub.app_nil _, ?_, rfl⟩
            first
            | (rw [if_pos (by simp_all [lt])]; rfl)
            | (rw [if_neg (by intro hcc; simp_all [lt])]; rfl)
instance {b lev cnt : Int} {d f g k : List UInt8} [hd : Len32 d] {bt : Bool} {x y : Opn} : PC Go.Proofs.Try.prog 23 [trA b, tabA lev cnt d f g, S k, ptA bt x y] (cnt ≤ 9223372036854775807 ∧ x.2.1.length ≤ 100000000000000 ∧ y.2.1.length ≤ 100000000000000) (.tuple [(seekC b ⟨d, hd.len⟩ cnt f g k bt x y).2.2.av, B (seekC b ⟨d, hd.len⟩ cnt f g k bt x y).2.1, I .i64 ((seekC b ⟨d, hd.len⟩ cnt f g k bt x y).1 : Nat)]) := ⟨fun hl => PC.of (seekCheck_ok b lev cnt d f g k bt x y hl.1 hl.2.1 hl.2.2)⟩
end Go.Ab

/- A table's points and spans: what is told of a list. No program in sight. -/
set_option linter.unusedVariables false
set_option linter.unusedSimpArgs false
namespace Go.Ab
theorem whole_enB {e : En} (h : right e = true) : wholeB (enB e) = true ∧ parseV (enB e) = e := by
  have := parse_put e h []
  rw [List.append_nil, ← enB_right h] at this
  simp [wholeB, parseV, parseX, parseN, this]
theorem getD_mem {α : Type} [Inhabited α] {l : List α} {i : Nat} (h : i < l.length) : l.getD i default ∈ l := by
  rw [List.getD_eq_getElem?_getD, List.getElem?_eq_getElem h]; exact List.getElem_mem _
theorem getD_mapd {α β : Type} [Inhabited α] [Inhabited β] (f : α → β) {l : List α} {i : Nat} (h : i < l.length) : (l.map f).getD i default = f (l.getD i default) := by
  rw [List.getD_eq_getElem?_getD, List.getD_eq_getElem?_getD, List.getElem?_map, List.getElem?_eq_getElem h]; rfl
theorem holds_real (b : Int) {l : List En} (hr : ∀ i, i < l.length → right (l.getD i default) = true) {i : Nat} (h : i < l.length) : holdsB b (rootF b (l.map enB)) (l.length : Nat) (i : Nat) ((l.map enB).getD i default) (pathD b (l.map enB) i) = true ∧ parseV ((l.map enB).getD i default) = l.getD i default := by
  rw [getD_mapd enB h]
  obtain ⟨h1, h2⟩ := whole_enB (hr i h)
  refine ⟨?_, h2⟩
  obtain ⟨p1, p2⟩ := path_root b l.length (l.map enB) i (by simp) h
  rw [getD_mapd enB h] at p2
  rw [holdsB, h1, Bool.true_and, checkZ_nat _ _ _ _ h, checkB, decide_eq_true p1, Bool.true_and, decide_eq_true p2]
/-- The two ends of a list let in just what is there or between two. -/
theorem covers_iff {l : List En} (hr : Rises l) (h0 : 0 < l.length) (k : List UInt8) : coversB (l.getD 0 default).key (l.getD (l.length - 1) default).key k = (hasK l k || (decide (placeN l k ≠ 0) && decide (placeN l k ≠ l.length))) := by
  have hp := placeN_le l k
  have a0 := place_at hr k h0
  have aL := place_at hr k (show l.length - 1 < l.length by omega)
  unfold coversB
  by_cases hz : placeN l k = 0
  · have h1 : lt (l.getD 0 default).key k = false := by
      rw [Bool.eq_false_iff]; intro h; have := a0.1 h; omega
    rw [h1, hz, Bool.false_or, has_place hr k, hz, decide_eq_true h0, Bool.true_and]
    by_cases he : (l.getD 0 default).key = k
    · rw [decide_eq_true he]
      simp only [Bool.true_and, ne_eq, not_true, decide_false, Bool.false_and, Bool.or_false]
      subst he
      by_cases h1 : l.length - 1 = 0
      · rw [h1]; simp
      · have : lt (l.getD 0 default).key (l.getD (l.length - 1) default).key = true := by
          have := List.pairwise_iff_getElem.1 hr 0 (l.length - 1) h0 (by omega) (by omega)
          rw [List.getD_eq_getElem?_getD, List.getElem?_eq_getElem h0, List.getD_eq_getElem?_getD, List.getElem?_eq_getElem (show l.length - 1 < l.length by omega)]
          exact this
        rw [this]; rfl
    · rw [decide_eq_false he]; simp
  · have h1 : lt (l.getD 0 default).key k = true := a0.2 (by omega)
    rw [h1, Bool.true_or, Bool.true_and, decide_eq_true (show placeN l k ≠ 0 from hz), Bool.true_and]
    by_cases hz2 : placeN l k = l.length
    · have h2 : lt (l.getD (l.length - 1) default).key k = true := aL.2 (by omega)
      rw [has_place hr k, hz2, lt_asymm h2, decide_eq_false (fun e => lt_ne h2 e.symm)]
      simp
    · rw [decide_eq_true (show placeN l k ≠ l.length from hz2), Bool.or_true]
      have h2 : lt (l.getD (l.length - 1) default).key k = false := by
        rw [Bool.eq_false_iff]; intro h; have := aL.1 h; omega
      cases h3 : lt k (l.getD (l.length - 1) default).key with
      | true => rfl
      | false => rw [lt_tri h3 h2]; simp
end Go.Ab

/- The document's points. -/
set_option linter.unusedVariables false
set_option linter.unusedSimpArgs false
namespace Go.Ab
def ref12_Covers.mark : Mark := ⟨fun t => false, fun t => false, fun t => Nat.beq t 2, fun t => Nat.beq t 7 || Nat.beq t 12, fun t => false⟩
def ref12_Covers.ann : Ann := ⟨fun n => [], fun n => none, fun n => none⟩
/-- 'marlstone/marlstoneref12.Covers' -/
def ref12_Covers.sh (a0 a1 : AV) (σ : Store) (Q : AEnd → Store → Prop) : Prop :=
  Do (aFreeze ((a0 : AV)).cells) fun t2 =>
  Do (aFieldAddr 34 1 t2) fun t6 =>
  Do (loadF false 1 t6) fun t7 =>
  Do (aBin Go.Proofs.Try.prog .geq 9 a1 t7) fun t8 =>
  Do (aGuard t8 true (aIs a1)) fun t10 =>
  Do (aGuard t8 true (aFieldAddr 35 1 t2)) fun t11 =>
  Do (aGuard t8 true (loadF false 1 t11)) fun t12 =>
  Do (aGuard t8 true (aBin Go.Proofs.Try.prog .leq 9 t10 t12)) fun t13 =>
  Do (aPick t8 t13 (.val (.bool false))) fun t14 =>
  Q (.ret t14) σ
theorem ref12_Covers.eq (a0 a1 : AV) (σ : Store) (Q : AEnd → Store → Prop) : vc (semOf Go.Proofs.Try.prog ref12_Covers.mark) Go.Proofs.Try.f19.ntmps ref12_Covers.ann (bodyOf Go.Proofs.Try.f19) (endK [.tmp 4] Q) (argFr [a0, a1]) σ = ref12_Covers.sh a0 a1 σ Q := by kernel_rfl
theorem ref12_Covers.go {a0 a1 : AV} {σ : Store} {Q : AEnd → Store → Prop} (h : ref12_Covers.sh a0 a1 σ Q) : ACalls Go.Proofs.Try.prog 19 [a0, a1] σ Q :=
  acalls_of_eq [.tmp 4] Go.Proofs.Try.func19 (by kernel_rfl) (by kernel_rfl) (by kernel_rfl) (by kernel_rfl) (ref12_Covers.eq a0 a1 σ Q) h
def ref12_Overlaps.mark : Mark := ⟨fun t => false, fun t => false, fun t => Nat.beq t 3, fun t => Nat.beq t 16 || Nat.beq t 25, fun t => false⟩
def ref12_Overlaps.ann : Ann := ⟨fun n => [], fun n => none, fun n => none⟩
/-- 'marlstone/marlstoneref12.Overlaps' -/
def ref12_Overlaps.sh (a0 a1 a2 : AV) (σ : Store) (Q : AEnd → Store → Prop) : Prop :=
  Do (aFreeze ((a0 : AV)).cells) fun t3 =>
  Do (aBin Go.Proofs.Try.prog .eql 9 a2 (.val (.string ⟨#[]⟩))) fun t8 =>
  Do (aGuard t8 false (aIs a2)) fun t10 =>
  Do (aGuard t8 false (aIs a1)) fun t11 =>
  Do (aGuard t8 false (aBin Go.Proofs.Try.prog .gtr 9 t10 t11)) fun t12 =>
  Do (aPick t8 (.val (.bool true)) t12) fun t13 =>
  Do (aGuard t13 true (aFieldAddr 35 1 t3)) fun t15 =>
  Do (aGuard t13 true (loadF false 1 t15)) fun t16 =>
  Do (aGuard t13 true (aIs a1)) fun t17 =>
  Do (aGuard t13 true (aBin Go.Proofs.Try.prog .geq 9 t16 t17)) fun t18 =>
  Do (aPick t13 t18 (.val (.bool false))) fun t19 =>
  Do (aGuard t19 true (aIs a2)) fun t21 =>
  Do (aGuard t19 true (aBin Go.Proofs.Try.prog .eql 9 t21 (.val (.string ⟨#[]⟩)))) fun t22 =>
  Do (aGuard t19 true (aIs t22)) fun t23 =>
  Do (aGuard t23 false (aFieldAddr 34 1 t3)) fun t24 =>
  Do (aGuard t23 false (loadF false 1 t24)) fun t25 =>
  Do (aGuard t23 false (aIs a2)) fun t26 =>
  Do (aGuard t23 false (aBin Go.Proofs.Try.prog .lss 9 t25 t26)) fun t27 =>
  Do (aGuard t19 true (aPick t23 (.val (.bool true)) t27)) fun t28 =>
  Do (aPick t19 t28 (.val (.bool false))) fun t29 =>
  Q (.ret t29) σ
theorem ref12_Overlaps.eq (a0 a1 a2 : AV) (σ : Store) (Q : AEnd → Store → Prop) : vc (semOf Go.Proofs.Try.prog ref12_Overlaps.mark) Go.Proofs.Try.f21.ntmps ref12_Overlaps.ann (bodyOf Go.Proofs.Try.f21) (endK [.tmp 6] Q) (argFr [a0, a1, a2]) σ = ref12_Overlaps.sh a0 a1 a2 σ Q := by kernel_rfl
theorem ref12_Overlaps.go {a0 a1 a2 : AV} {σ : Store} {Q : AEnd → Store → Prop} (h : ref12_Overlaps.sh a0 a1 a2 σ Q) : ACalls Go.Proofs.Try.prog 21 [a0, a1, a2] σ Q :=
  acalls_of_eq [.tmp 6] Go.Proofs.Try.func21 (by kernel_rfl) (by kernel_rfl) (by kernel_rfl) (by kernel_rfl) (ref12_Overlaps.eq a0 a1 a2 σ Q) h
def ref12_opening.mark : Mark := ⟨fun t => Nat.beq t 13, fun t => false, fun t => false, fun t => Nat.beq t 20, fun t => false⟩
def ref12_opening.ann : Ann := ⟨fun n => [], fun n => none, fun n => none⟩
/-- 'marlstone/marlstoneref12.opening' -/
def ref12_opening.sh (a0 a1 a2 : AV) (σ : Store) (Q : AEnd → Store → Prop) : Prop :=
  aNewVar 30 [.val (.int .i64 0), .val (.slice none 0 0), .val (.slice none 0 0)] σ fun t6 σ =>
  Do (aPureC Go.Proofs.Try.prog 89 [a0, a1, a2]) fun t13 =>
  Do (aExt t13 0) fun t14 =>
  Do (aExt t13 1) fun t15 =>
  Do (aIndexAddr .slice 1 a1 a2) fun t19 =>
  Do (loadF false 1 t19) fun t20 =>
  Do (aConvSB t20) fun t21 =>
  Do (aLit [.val (.int .i64 0), .val (.slice none 0 0), .val (.slice none 0 0)] [(0, 1), (1, 1), (2, 1)] [(0, a2), (1, t21), (2, t14)]) fun t23 =>
  storeA 3 t6 t23 σ fun u σ_1 =>
  Do (loadA true 3 t6 σ_1) fun r6 => Q (.ret r6) σ_1
theorem ref12_opening.eq (a0 a1 a2 : AV) (σ : Store) (Q : AEnd → Store → Prop) : vc (semOf Go.Proofs.Try.prog ref12_opening.mark) Go.Proofs.Try.f42.ntmps ref12_opening.ann (bodyOf Go.Proofs.Try.f42) (endK [.cell 6 true 3] Q) (argFr [a0, a1, a2]) σ = ref12_opening.sh a0 a1 a2 σ Q := by kernel_rfl
theorem ref12_opening.go {a0 a1 a2 : AV} {σ : Store} {Q : AEnd → Store → Prop} (h : ref12_opening.sh a0 a1 a2 σ Q) : ACalls Go.Proofs.Try.prog 42 [a0, a1, a2] σ Q :=
  acalls_of_eq [.cell 6 true 3] Go.Proofs.Try.func42 (by kernel_rfl) (by kernel_rfl) (by kernel_rfl) (by kernel_rfl) (ref12_opening.eq a0 a1 a2 σ Q) h
def ref12_Prove.mark : Mark := ⟨fun t => Nat.beq t 13 || Nat.beq t 36 || Nat.beq t 40 || Nat.beq t 47 || Nat.beq t 53 || Nat.beq t 57, fun t => false, fun t => false, fun t => Nat.beq t 21 || Nat.beq t 31, fun t => false⟩
def ref12_Prove.ann : Ann := ⟨fun n => [], fun n => none, fun n => none⟩
/-- 'marlstone/marlstoneref12.Prove' -/
def ref12_Prove.sh (a0 a1 a2 : AV) (σ : Store) (Q : AEnd → Store → Prop) : Prop :=
  aNewVar 32 [.val (.bool false), .val (.int .i64 0), .val (.slice none 0 0), .val (.slice none 0 0), .val (.int .i64 0), .val (.slice none 0 0), .val (.slice none 0 0)] σ fun t6 σ =>
  Do (aPureC Go.Proofs.Try.prog 39 [a1]) fun t13 =>
  Do (aUn Go.Proofs.Try.prog .not t13) fun t15 =>
  aCond t15
    (Do (aLit [.val (.bool false), .val (.int .i64 0), .val (.slice none 0 0), .val (.slice none 0 0), .val (.int .i64 0), .val (.slice none 0 0), .val (.slice none 0 0)] [(0, 1), (1, 3), (4, 3)] []) fun t16 =>
    storeA 7 t6 t16 σ fun u σ_1 =>
    Do (loadA true 7 t6 σ_1) fun r6 => Q (.ret (.tuple [r6, (.val (.int .i64 1))])) σ_1)
    (Do (aIndexAddr .slice 4 a1 (.val (.int .i64 0))) fun t19 =>
  Do (aFieldAddr 0 1 t19) fun t20 =>
  Do (loadF false 1 t20) fun t21 =>
  Do (aBin Go.Proofs.Try.prog .lss 9 a2 t21) fun t22 =>
  Do (aGuard t22 false (aIs a2)) fun t24 =>
  Do (aGuard t22 false (aIs a1)) fun t25 =>
  Do (aGuard t22 false (aIs a1)) fun t26 =>
  Do (aGuard t22 false (aBuiltin Go.Proofs.Try.prog .len #[22] [t26])) fun t27 =>
  Do (aGuard t22 false (aBin Go.Proofs.Try.prog .sub 3 t27 (.val (.int .i64 1)))) fun t28 =>
  Do (aGuard t22 false (aIndexAddr .slice 4 t25 t28)) fun t29 =>
  Do (aGuard t22 false (aFieldAddr 0 1 t29)) fun t30 =>
  Do (aGuard t22 false (loadF false 1 t30)) fun t31 =>
  Do (aGuard t22 false (aBin Go.Proofs.Try.prog .gtr 9 t24 t31)) fun t32 =>
  Do (aPick t22 (.val (.bool true)) t32) fun t33 =>
  aCond t33
    (Do (aLit [.val (.bool false), .val (.int .i64 0), .val (.slice none 0 0), .val (.slice none 0 0), .val (.int .i64 0), .val (.slice none 0 0), .val (.slice none 0 0)] [(0, 1), (1, 3), (4, 3)] []) fun t34 =>
    storeA 7 t6 t34 σ fun u_1 σ_2 =>
    Do (loadA true 7 t6 σ_2) fun r6_1 => Q (.ret (.tuple [r6_1, (.val (.int .i64 5))])) σ_2)
    (Do (aPureC Go.Proofs.Try.prog 40 [a1]) fun t36 =>
  Do (aPureC Go.Proofs.Try.prog 41 [a1, a2]) fun t40 =>
  Do (aExt t40 0) fun t41 =>
  Do (aExt t40 1) fun t42 =>
  aCond t42
    (Do (aPureC Go.Proofs.Try.prog 42 [a0, t36, t41]) fun t47 =>
    Do (aLit [.val (.bool false), .val (.int .i64 0), .val (.slice none 0 0), .val (.slice none 0 0), .val (.int .i64 0), .val (.slice none 0 0), .val (.slice none 0 0)] [(0, 1), (1, 3), (4, 3)] [(1, t47)]) fun t48 =>
    storeA 7 t6 t48 σ fun u_2 σ_3 =>
    Do (loadA true 7 t6 σ_3) fun r6_2 => Q (.ret (.tuple [r6_2, (.val (.int .i64 0))])) σ_3)
    (Do (aBin Go.Proofs.Try.prog .sub 3 t41 (.val (.int .i64 1))) fun t52 =>
  Do (aPureC Go.Proofs.Try.prog 42 [a0, t36, t52]) fun t53 =>
  Do (aPureC Go.Proofs.Try.prog 42 [a0, t36, t41]) fun t57 =>
  Do (aLit [.val (.bool false), .val (.int .i64 0), .val (.slice none 0 0), .val (.slice none 0 0), .val (.int .i64 0), .val (.slice none 0 0), .val (.slice none 0 0)] [(0, 1), (1, 3), (4, 3)] [(0, (.val (.bool true))), (1, t53), (2, t57)]) fun t58 =>
  storeA 7 t6 t58 σ fun u_3 σ_4 =>
  Do (loadA true 7 t6 σ_4) fun r6_3 => Q (.ret (.tuple [r6_3, (.val (.int .i64 0))])) σ_4)))
theorem ref12_Prove.eq (a0 a1 a2 : AV) (σ : Store) (Q : AEnd → Store → Prop) : vc (semOf Go.Proofs.Try.prog ref12_Prove.mark) Go.Proofs.Try.f13.ntmps ref12_Prove.ann (bodyOf Go.Proofs.Try.f13) (endK [.cell 6 true 7, .tmp 7] Q) (argFr [a0, a1, a2]) σ = ref12_Prove.sh a0 a1 a2 σ Q := by kernel_rfl
theorem ref12_Prove.go {a0 a1 a2 : AV} {σ : Store} {Q : AEnd → Store → Prop} (h : ref12_Prove.sh a0 a1 a2 σ Q) : ACalls Go.Proofs.Try.prog 13 [a0, a1, a2] σ Q :=
  acalls_of_eq [.cell 6 true 7, .tmp 7] Go.Proofs.Try.func13 (by kernel_rfl) (by kernel_rfl) (by kernel_rfl) (by kernel_rfl) (ref12_Prove.eq a0 a1 a2 σ Q) h
def ref12_Whole.mark : Mark := ⟨fun t => Nat.beq t 9, fun t => false, fun t => false, fun t => false, fun t => false⟩
def ref12_Whole.ann : Ann := ⟨fun n => [], fun n => none, fun n => none⟩
def ref12_holds.mark : Mark := ⟨fun t => Nat.beq t 23 || Nat.beq t 28, fun t => false, fun t => Nat.beq t 4 || Nat.beq t 5, fun t => Nat.beq t 13 || Nat.beq t 15 || Nat.beq t 17 || Nat.beq t 19 || Nat.beq t 22 || Nat.beq t 26, fun t => false⟩
def ref12_holds.ann : Ann := ⟨fun n => [], fun n => none, fun n => none⟩
def ref12_Check.mark : Mark := ⟨fun t => Nat.beq t 18 || Nat.beq t 24 || Nat.beq t 68, fun t => false, fun t => Nat.beq t 5 || Nat.beq t 7, fun t => Nat.beq t 16 || Nat.beq t 21 || Nat.beq t 23 || Nat.beq t 35 || Nat.beq t 44 || Nat.beq t 50 || Nat.beq t 57 || Nat.beq t 65 || Nat.beq t 67 || Nat.beq t 76 || Nat.beq t 79, fun t => false⟩
def ref12_Check.ann : Ann := ⟨fun n => [], fun n => none, fun n => none⟩
theorem ref12_Covers_ok (lev n : Int) (d f g k : List UInt8) [hd : Len32 d] : aPure Go.Proofs.Try.prog 19 [tabA lev n d f g, S k] (B (coversB f g k)) := by
  refine ACalls.fin (ref12_Covers.go ?_)
  unfold ref12_Covers.sh
  have e : coversB f g k = (!lt k f && (lt k g || decide (k = g))) := by rw [coversB, lt_flip k f, Bool.not_not]
  rw [e]
  repeat' (first | with_reducible apply Stp.go | with_reducible refine imp fun _ => ?_ | (with_reducible refine hyp ?_ ?_; first | assumption | exact leftT_mem (by assumption)) | (with_reducible refine need ?_ ?_; first | trivial | omega | exact ⟨by assumption, by omega⟩ | (simp only [List.length_append, List.length_cons, List.length_nil, List.length_map, List.length_take, List.length_drop, List.length_replicate, List.length_set]; omega)) | (with_reducible refine fact ?_ ?_; first | trivial | exact ⟨rfl, rfl⟩ | kernel_rfl) | with_reducible refine choT (by assumption) ?_ | with_reducible refine choF (by assumption) ?_ | with_reducible refine choF' (by assumption) ?_ | (with_reducible refine altT ?_ ?_; first | omega | (simp only [List.length_append, List.length_cons, List.length_nil, List.length_map, List.length_take, List.length_drop, List.length_replicate, List.length_set]; omega)) | with_reducible refine altF ?_ | with_reducible refine all fun _ => ?_ | with_reducible refine both ?_ ?_ | (with_reducible refine choT ?_ ?_; omega) | (with_reducible refine choF ?_ ?_; omega) | with_reducible refine cho (fun _ => ?_) (fun _ => ?_))
  all_goals
    refine ⟨_, _, _, rfl, Sub.app_nil _, ?_, rfl⟩
    simp_all [Go.Ab.lt]
instance {lev n : Int} {d f g k : List UInt8} [hd : Len32 d] : PC Go.Proofs.Try.prog 19 [tabA lev n d f g, S k] True (B (coversB f g k)) := ⟨fun _ => PC.of (ref12_Covers_ok lev n d f g k)⟩
theorem ref12_Overlaps_ok (lev n : Int) (d f g lo hi : List UInt8) [hd : Len32 d] : aPure Go.Proofs.Try.prog 21 [tabA lev n d f g, S lo, S hi] (B (overB f g lo hi)) := by
  refine ACalls.fin (ref12_Overlaps.go ?_)
  unfold ref12_Overlaps.sh
  have e : overB f g lo hi = ((decide (hi = []) || !(lt hi lo || decide (hi = lo))) && (!lt g lo && (decide (hi = []) || lt f hi))) := by rw [overB, belowB, belowB, lt_flip lo hi]
  rw [e]
  repeat' (first | with_reducible apply Stp.go | with_reducible refine imp fun _ => ?_ | (with_reducible refine hyp ?_ ?_; first | assumption | exact leftT_mem (by assumption)) | (with_reducible refine need ?_ ?_; first | trivial | omega | exact ⟨by assumption, by omega⟩ | (simp only [List.length_append, List.length_cons, List.length_nil, List.length_map, List.length_take, List.length_drop, List.length_replicate, List.length_set]; omega)) | (with_reducible refine fact ?_ ?_; first | trivial | exact ⟨rfl, rfl⟩ | kernel_rfl) | with_reducible refine choT (by assumption) ?_ | with_reducible refine choF (by assumption) ?_ | with_reducible refine choF' (by assumption) ?_ | (with_reducible refine altT ?_ ?_; first | omega | (simp only [List.length_append, List.length_cons, List.length_nil, List.length_map, List.length_take, List.length_drop, List.length_replicate, List.length_set]; omega)) | with_reducible refine altF ?_ | with_reducible refine all fun _ => ?_ | with_reducible refine both ?_ ?_ | (with_reducible refine choT ?_ ?_; omega) | (with_reducible refine choF ?_ ?_; omega) | with_reducible refine cho (fun _ => ?_) (fun _ => ?_))
  all_goals
    refine ⟨_, _, _, rfl, Sub.app_nil _, ?_, rfl⟩
    simp_all [Go.Ab.lt]
    try
      rename_i h
      intro a1 a2
      rcases h with h | h
      · rw [a1] at h; cases h
      · exact absurd h a2
instance {lev n : Int} {d f g lo hi : List UInt8} [hd : Len32 d] : PC Go.Proofs.Try.prog 21 [tabA lev n d f g, S lo, S hi] True (B (overB f g lo hi)) := ⟨fun _ => PC.of (ref12_Overlaps_ok lev n d f g lo hi)⟩
theorem ref12_opening_ok (b : Int) (L : List (List UInt8)) (m : SM) (i : Nat) (hi : i < L.length) (hL : L.length ≤ 1000000) (hb : ∀ b ∈ L, b.length ≤ 10000000000000) : aPure Go.Proofs.Try.prog 42 [I .i64 b, .lst 1 (L.map tx) m, I .i64 (i : Nat)] (opA i (L.getD i default) (pathD b L i)) := by
  refine ACalls.fin (ref12_opening.go ?_)
  unfold ref12_opening.sh
  have hp : i < L.length ∧ L.length ≤ 1000000 ∧ ∀ b ∈ L, b.length ≤ 10000000000000 := ⟨hi, hL, hb⟩
  have hb0 : (L.getD i default).length ≤ 10000000000000 := hb _ (by rw [List.getD_eq_getElem?_getD, List.getElem?_eq_getElem hi]; exact List.getElem_mem _)
  repeat' (first | with_reducible apply Stp.go | with_reducible refine imp fun _ => ?_ | (with_reducible refine hyp ?_ ?_; first | assumption | exact leftT_mem (by assumption)) | (with_reducible refine need ?_ ?_; first | trivial | omega | exact ⟨by assumption, by omega⟩ | (simp only [List.length_append, List.length_cons, List.length_nil, List.length_map, List.length_take, List.length_drop, List.length_replicate, List.length_set]; omega)) | (with_reducible refine fact ?_ ?_; first | trivial | exact ⟨rfl, rfl⟩ | kernel_rfl) | with_reducible refine choT (by assumption) ?_ | with_reducible refine choF (by assumption) ?_ | with_reducible refine choF' (by assumption) ?_ | (with_reducible refine altT ?_ ?_; first | omega | (simp only [List.length_append, List.length_cons, List.length_nil, List.length_map, List.length_take, List.length_drop, List.length_replicate, List.length_set]; omega)) | with_reducible refine altF ?_ | with_reducible refine all fun _ => ?_ | with_reducible refine both ?_ ?_ | (with_reducible refine choT ?_ ?_; omega) | (with_reducible refine choF ?_ ?_; omega) | with_reducible refine cho (fun _ => ?_) (fun _ => ?_))
  exact ⟨_, _, _, rfl, Sub.app_nil _, rfl, rfl⟩
instance {a : AV} {L : List (List UInt8)} {m : SM} {b : Int} {i : Nat} [h : IsL a tx 1 L m] : PC Go.Proofs.Try.prog 42 [I .i64 b, a, I .i64 (i : Nat)] (i < L.length ∧ L.length ≤ 1000000 ∧ ∀ b ∈ L, b.length ≤ 10000000000000) (opA i (L.getD i default) (pathD b L i)) := ⟨fun hl => ⟨[I .i64 b, .lst 1 (L.map tx) m, I .i64 (i : Nat)], ⟨SubV.refl _, h.sub, SubV.refl _, trivial⟩, ref12_opening_ok b L m i hl.1 hl.2.1 hl.2.2⟩⟩
theorem ref12_Prove_ok (b : Int) (l : List En) (m : SM) (k : List UInt8) (hl : l.length ≤ 1000000) : aPure Go.Proofs.Try.prog 13 [I .i64 b, .lst 4 (l.map En.av) m, S k] (.tuple [ptA (proveP b l k).2.1 (proveP b l k).2.2.1 (proveP b l k).2.2.2, I .i64 ((proveP b l k).1 : Nat)]) := by
  refine ACalls.fin (ref12_Prove.go ?_)
  unfold ref12_Prove.sh
  have hb : ∀ b ∈ l.map enB, b.length ≤ 10000000000000 := fun b h => by
    obtain ⟨e, _, rfl⟩ := List.mem_map.1 h
    have := enB_length e
    omega
  have hml : (l.map enB).length = l.length := by simp
  have hL : (l.map enB).length ≤ 1000000 := by omega
  by_cases hf : fit l = true
  · have hr : Rises l := (sorted_iff l).1 (fit_right hf).2.2.1
    have h0 : 0 < l.length := (fit_right hf).2.1
    have hp := placeN_le l k
    have hcv := covers_iff hr h0 k
    have e1 : coversB (l.getD 0 default).key (l.getD (l.length - 1) default).key k = (!Op.bytesLess k (l.getD 0 default).key && (Op.bytesLess k (l.getD (l.length - 1) default).key || decide (k = (l.getD (l.length - 1) default).key))) := by
      show _ = (!lt k _ && (lt k _ || _))
      rw [coversB, lt_flip k (l.getD 0 default).key, Bool.not_not]
    rw [e1] at hcv
    clear e1
    by_cases hk : hasK l k = true
    · have h1 := (place_lt hr hk).1
      rw [hk, Bool.true_or, Bool.and_eq_true, Bool.not_eq_true'] at hcv
      obtain ⟨c1, c2⟩ := hcv
      have c1' : ¬ Op.bytesLess k (l.getD 0 default).key = true := by rw [c1]; decide
      have e : proveP b l k = (0, false, opnAt b (l.map enB) (placeN l k), opn0) := by rw [proveP, if_pos hf, if_pos hk]
      have q1 : placeN l k < (l.map enB).length ∧ (l.map enB).length ≤ 1000000 ∧ ∀ b ∈ l.map enB, b.length ≤ 10000000000000 := ⟨by omega, hL, hb⟩
      rw [e]
      repeat' (first | with_reducible apply Stp.go | with_reducible refine imp fun _ => ?_ | (with_reducible refine hyp ?_ ?_; first | assumption | exact leftT_mem (by assumption)) | (with_reducible refine need ?_ ?_; first | trivial | omega | exact ⟨by assumption, by omega⟩ | (simp only [List.length_append, List.length_cons, List.length_nil, List.length_map, List.length_take, List.length_drop, List.length_replicate, List.length_set]; omega)) | (with_reducible refine fact ?_ ?_; first | trivial | exact ⟨rfl, rfl⟩ | kernel_rfl) | with_reducible refine choT (by assumption) ?_ | with_reducible refine choF (by assumption) ?_ | with_reducible refine choF' (by assumption) ?_ | (with_reducible refine altT ?_ ?_; first | omega | (simp only [List.length_append, List.length_cons, List.length_nil, List.length_map, List.length_take, List.length_drop, List.length_replicate, List.length_set]; omega)) | with_reducible refine altF ?_ | with_reducible refine all fun _ => ?_ | with_reducible refine both ?_ ?_ | (with_reducible refine choT ?_ ?_; omega) | (with_reducible refine choF ?_ ?_; omega) | with_reducible refine cho (fun _ => ?_) (fun _ => ?_))
      refine litFill (cs := [.val (.bool false), I .i64 (placeN l k : Nat), bl ((l.map enB).getD (placeN l k) default), .lst 32 ((pathD b (l.map enB) (placeN l k)).map dgF) .ro, .val (.int .i64 0), .val (.slice none 0 0), .val (.slice none 0 0)]) ?_ rfl ?_
      · intro p hp c hc
        rw [List.mem_singleton.1 hp] at hc
        simp only [AV.cells, List.mem_cons, List.not_mem_nil, or_false] at hc
        rcases hc with rfl | rfl | rfl <;> rfl
      repeat' (first | with_reducible apply Stp.go | with_reducible refine imp fun _ => ?_ | (with_reducible refine hyp ?_ ?_; first | assumption | exact leftT_mem (by assumption)) | (with_reducible refine need ?_ ?_; first | trivial | omega | exact ⟨by assumption, by omega⟩ | (simp only [List.length_append, List.length_cons, List.length_nil, List.length_map, List.length_take, List.length_drop, List.length_replicate, List.length_set]; omega)) | (with_reducible refine fact ?_ ?_; first | trivial | exact ⟨rfl, rfl⟩ | kernel_rfl) | with_reducible refine choT (by assumption) ?_ | with_reducible refine choF (by assumption) ?_ | with_reducible refine choF' (by assumption) ?_ | (with_reducible refine altT ?_ ?_; first | omega | (simp only [List.length_append, List.length_cons, List.length_nil, List.length_map, List.length_take, List.length_drop, List.length_replicate, List.length_set]; omega)) | with_reducible refine altF ?_ | with_reducible refine all fun _ => ?_ | with_reducible refine both ?_ ?_ | (with_reducible refine choT ?_ ?_; omega) | (with_reducible refine choF ?_ ?_; omega) | with_reducible refine cho (fun _ => ?_) (fun _ => ?_))
      exact ⟨_, _, _, rfl, Sub.trans (Sub.app_nil _) (Sub.tuple (Sub.vals (.mk (ptSub1 _ _ _ _ _) (.mk (SubV.refl _) .nl)))), rfl, rfl⟩
    · have hkf : hasK l k = false := Bool.eq_false_iff.2 hk
      rw [hkf, Bool.false_or] at hcv
      by_cases hz : placeN l k = 0 ∨ placeN l k = l.length
      · have e : proveP b l k = (5, false, opn0, opn0) := by rw [proveP, if_pos hf, if_neg hk, if_pos hz]
        have hcf : (!Op.bytesLess k (l.getD 0 default).key && (Op.bytesLess k (l.getD (l.length - 1) default).key || decide (k = (l.getD (l.length - 1) default).key))) = false := by
          rw [hcv]
          rcases hz with h | h <;> simp [h]
        rw [e]
        by_cases c1 : Op.bytesLess k (l.getD 0 default).key = true
        · repeat' (first | with_reducible apply Stp.go | with_reducible refine imp fun _ => ?_ | (with_reducible refine hyp ?_ ?_; first | assumption | exact leftT_mem (by assumption)) | (with_reducible refine need ?_ ?_; first | trivial | omega | exact ⟨by assumption, by omega⟩ | (simp only [List.length_append, List.length_cons, List.length_nil, List.length_map, List.length_take, List.length_drop, List.length_replicate, List.length_set]; omega)) | (with_reducible refine fact ?_ ?_; first | trivial | exact ⟨rfl, rfl⟩ | kernel_rfl) | with_reducible refine choT (by assumption) ?_ | with_reducible refine choF (by assumption) ?_ | with_reducible refine choF' (by assumption) ?_ | (with_reducible refine altT ?_ ?_; first | omega | (simp only [List.length_append, List.length_cons, List.length_nil, List.length_map, List.length_take, List.length_drop, List.length_replicate, List.length_set]; omega)) | with_reducible refine altF ?_ | with_reducible refine all fun _ => ?_ | with_reducible refine both ?_ ?_ | (with_reducible refine choT ?_ ?_; omega) | (with_reducible refine choF ?_ ?_; omega) | with_reducible refine cho (fun _ => ?_) (fun _ => ?_))
          exact ⟨_, _, _, rfl, Sub.trans (Sub.app_nil _) (Sub.tuple (Sub.vals (.mk (ptSub _ _ _) (.mk (SubV.refl _) .nl)))), rfl, rfl⟩
        · have c2 : ¬ (Op.bytesLess k (l.getD (l.length - 1) default).key || decide (k = (l.getD (l.length - 1) default).key)) = true := by
            intro c2
            rw [c2, Bool.eq_false_iff.2 c1] at hcf
            cases hcf
          repeat' (first | with_reducible apply Stp.go | with_reducible refine imp fun _ => ?_ | (with_reducible refine hyp ?_ ?_; first | assumption | exact leftT_mem (by assumption)) | (with_reducible refine need ?_ ?_; first | trivial | omega | exact ⟨by assumption, by omega⟩ | (simp only [List.length_append, List.length_cons, List.length_nil, List.length_map, List.length_take, List.length_drop, List.length_replicate, List.length_set]; omega)) | (with_reducible refine fact ?_ ?_; first | trivial | exact ⟨rfl, rfl⟩ | kernel_rfl) | with_reducible refine choT (by assumption) ?_ | with_reducible refine choF (by assumption) ?_ | with_reducible refine choF' (by assumption) ?_ | (with_reducible refine altT ?_ ?_; first | omega | (simp only [List.length_append, List.length_cons, List.length_nil, List.length_map, List.length_take, List.length_drop, List.length_replicate, List.length_set]; omega)) | with_reducible refine altF ?_ | with_reducible refine all fun _ => ?_ | with_reducible refine both ?_ ?_ | (with_reducible refine choT ?_ ?_; omega) | (with_reducible refine choF ?_ ?_; omega) | with_reducible refine cho (fun _ => ?_) (fun _ => ?_))
          exact ⟨_, _, _, rfl, Sub.trans (Sub.app_nil _) (Sub.tuple (Sub.vals (.mk (ptSub _ _ _) (.mk (SubV.refl _) .nl)))), rfl, rfl⟩
      · have e : proveP b l k = (0, true, opnAt b (l.map enB) (placeN l k - 1), opnAt b (l.map enB) (placeN l k)) := by rw [proveP, if_pos hf, if_neg hk, if_neg hz]
        have z0 : ¬ placeN l k = 0 := fun h => hz (.inl h)
        have z1 : ¬ placeN l k = l.length := fun h => hz (.inr h)
        rw [decide_eq_true z0, decide_eq_true z1, Bool.and_true, Bool.and_eq_true, Bool.not_eq_true'] at hcv
        obtain ⟨c1, c2⟩ := hcv
        have c1' : ¬ Op.bytesLess k (l.getD 0 default).key = true := by rw [c1]; decide
        have q1 : placeN l k < (l.map enB).length ∧ (l.map enB).length ≤ 1000000 ∧ ∀ b ∈ l.map enB, b.length ≤ 10000000000000 := ⟨by omega, hL, hb⟩
        have q2 : placeN l k - 1 < (l.map enB).length ∧ (l.map enB).length ≤ 1000000 ∧ ∀ b ∈ l.map enB, b.length ≤ 10000000000000 := ⟨by omega, hL, hb⟩
        rw [e]
        repeat' (first | with_reducible apply Stp.go | with_reducible refine imp fun _ => ?_ | (with_reducible refine hyp ?_ ?_; first | assumption | exact leftT_mem (by assumption)) | (with_reducible refine need ?_ ?_; first | trivial | omega | exact ⟨by assumption, by omega⟩ | (simp only [List.length_append, List.length_cons, List.length_nil, List.length_map, List.length_take, List.length_drop, List.length_replicate, List.length_set]; omega)) | (with_reducible refine fact ?_ ?_; first | trivial | exact ⟨rfl, rfl⟩ | kernel_rfl) | with_reducible refine choT (by assumption) ?_ | with_reducible refine choF (by assumption) ?_ | with_reducible refine choF' (by assumption) ?_ | (with_reducible refine altT ?_ ?_; first | omega | (simp only [List.length_append, List.length_cons, List.length_nil, List.length_map, List.length_take, List.length_drop, List.length_replicate, List.length_set]; omega)) | with_reducible refine altF ?_ | with_reducible refine all fun _ => ?_ | with_reducible refine both ?_ ?_ | (with_reducible refine choT ?_ ?_; omega) | (with_reducible refine choF ?_ ?_; omega) | with_reducible refine cho (fun _ => ?_) (fun _ => ?_))
        refine litFill (cs := [.val (.bool true), I .i64 (placeN l k - 1 : Nat), bl ((l.map enB).getD (placeN l k - 1) default), .lst 32 ((pathD b (l.map enB) (placeN l k - 1)).map dgF) .ro, I .i64 (placeN l k : Nat), bl ((l.map enB).getD (placeN l k) default), .lst 32 ((pathD b (l.map enB) (placeN l k)).map dgF) .ro]) ?_ rfl ?_
        · intro p hp c hc
          simp only [List.mem_cons, List.not_mem_nil, or_false] at hp
          rcases hp with rfl | rfl | rfl
          · rw [List.mem_singleton.1 hc]; rfl
          · simp only [AV.cells, List.mem_cons, List.not_mem_nil, or_false] at hc
            rcases hc with rfl | rfl | rfl <;> rfl
          · simp only [AV.cells, List.mem_cons, List.not_mem_nil, or_false] at hc
            rcases hc with rfl | rfl | rfl <;> rfl
        repeat' (first | with_reducible apply Stp.go | with_reducible refine imp fun _ => ?_ | (with_reducible refine hyp ?_ ?_; first | assumption | exact leftT_mem (by assumption)) | (with_reducible refine need ?_ ?_; first | trivial | omega | exact ⟨by assumption, by omega⟩ | (simp only [List.length_append, List.length_cons, List.length_nil, List.length_map, List.length_take, List.length_drop, List.length_replicate, List.length_set]; omega)) | (with_reducible refine fact ?_ ?_; first | trivial | exact ⟨rfl, rfl⟩ | kernel_rfl) | with_reducible refine choT (by assumption) ?_ | with_reducible refine choF (by assumption) ?_ | with_reducible refine choF' (by assumption) ?_ | (with_reducible refine altT ?_ ?_; first | omega | (simp only [List.length_append, List.length_cons, List.length_nil, List.length_map, List.length_take, List.length_drop, List.length_replicate, List.length_set]; omega)) | with_reducible refine altF ?_ | with_reducible refine all fun _ => ?_ | with_reducible refine both ?_ ?_ | (with_reducible refine choT ?_ ?_; omega) | (with_reducible refine choF ?_ ?_; omega) | with_reducible refine cho (fun _ => ?_) (fun _ => ?_))
        exact ⟨_, _, _, rfl, Sub.app_nil _, rfl, rfl⟩
  · have e : proveP b l k = (1, false, opn0, opn0) := by rw [proveP, if_neg hf]
    rw [e]
    repeat' (first | with_reducible apply Stp.go | with_reducible refine imp fun _ => ?_ | (with_reducible refine hyp ?_ ?_; first | assumption | exact leftT_mem (by assumption)) | (with_reducible refine need ?_ ?_; first | trivial | omega | exact ⟨by assumption, by omega⟩ | (simp only [List.length_append, List.length_cons, List.length_nil, List.length_map, List.length_take, List.length_drop, List.length_replicate, List.length_set]; omega)) | (with_reducible refine fact ?_ ?_; first | trivial | exact ⟨rfl, rfl⟩ | kernel_rfl) | with_reducible refine choT (by assumption) ?_ | with_reducible refine choF (by assumption) ?_ | with_reducible refine choF' (by assumption) ?_ | (with_reducible refine altT ?_ ?_; first | omega | (simp only [List.length_append, List.length_cons, List.length_nil, List.length_map, List.length_take, List.length_drop, List.length_replicate, List.length_set]; omega)) | with_reducible refine altF ?_ | with_reducible refine all fun _ => ?_ | with_reducible refine both ?_ ?_ | (with_reducible refine choT ?_ ?_; omega) | (with_reducible refine choF ?_ ?_; omega) | with_reducible refine cho (fun _ => ?_) (fun _ => ?_))
    exact ⟨_, _, _, rfl, Sub.trans (Sub.app_nil _) (Sub.tuple (Sub.vals (.mk (ptSub _ _ _) (.mk (SubV.refl _) .nl)))), rfl, rfl⟩
instance {a : AV} {l : List En} {m : SM} {b : Int} {k : List UInt8} [h : IsL a En.av 4 l m] : PC Go.Proofs.Try.prog 13 [I .i64 b, a, S k] (l.length ≤ 1000000) (.tuple [ptA (proveP b l k).2.1 (proveP b l k).2.2.1 (proveP b l k).2.2.2, I .i64 ((proveP b l k).1 : Nat)]) := ⟨fun hl => ⟨[I .i64 b, .lst 4 (l.map En.av) m, S k], ⟨SubV.refl _, h.sub, SubV.refl _, trivial⟩, ref12_Prove_ok b l m k hl⟩⟩
end Go.Ab

/- What a table has of some keys, checked. -/
set_option linter.unusedVariables false
set_option linter.unusedSimpArgs false
namespace Go.Ab
def seek_CheckSpan_1.mark : Mark := ⟨fun t => Nat.beq t 13, fun t => false, fun t => Nat.beq t 3, fun t => Nat.beq t 6 || Nat.beq t 11, fun t => false⟩
def seek_CheckSpan_1.ann : Ann := ⟨fun n => [], fun n => none, fun n => none⟩
def seek_CheckSpan.mark : Mark := ⟨fun t => Nat.beq t 26 || Nat.beq t 59 || Nat.beq t 87 || Nat.beq t 118, fun t => false, fun t => Nat.beq t 5 || Nat.beq t 6 || Nat.beq t 9, fun t => Nat.beq t 21 || Nat.beq t 23 || Nat.beq t 35 || Nat.beq t 40 || Nat.beq t 45 || Nat.beq t 47 || Nat.beq t 51 || Nat.beq t 56 || Nat.beq t 77 || Nat.beq t 90 || Nat.beq t 94 || Nat.beq t 107 || Nat.beq t 109 || Nat.beq t 111 || Nat.beq t 113 || Nat.beq t 115 || Nat.beq t 117, fun t => Nat.beq t 103⟩
def seek_CheckSpan.ann : Ann := ⟨fun n => bif Nat.beq n 6 then [5, 6, 7, 8, 9, 12, 13, 51, 52, 53] else [], fun n => none, fun n => none⟩
end Go.Ab

/- The document's spans. -/
set_option linter.unusedVariables false
set_option linter.unusedSimpArgs false
namespace Go.Ab
/-- nil in a variable's cell, told as a row without elements. -/
theorem Sub.nilIn {b : Nat} {t : TypeId} {pre post : List AV} {σ : Store} (E : TypeId) {sz : Nat} (hz : 0 < sz) (us : List AV) : Sub (.var b t (pre ++ .val (.slice none 0 0) :: post) :: σ) us (.var b t (pre ++ .own (.slice none 0 0) 0 :: post) :: .row (.slice none 0 0) E sz [] 0 :: σ) us := by
  intro R w vs hv hs
  have hst : St R w (.var b t (pre ++ .own (.slice none 0 0) 0 :: post) :: σ) := by
    refine ⟨hs.ro, fun e he => ?_, List.pairwise_cons.2 ⟨(List.pairwise_cons.1 hs.apart).1, (List.pairwise_cons.1 hs.apart).2⟩⟩
    rcases List.mem_cons.1 he with rfl | he
    · obtain ⟨⟨ws, h1, h2, h3⟩, h4⟩ := hs.ents _ List.mem_cons_self
      refine ⟨⟨ws, h1, ⟨by rw [h2.1]; simp, fun j u v hu hv => ?_⟩, h3⟩, h4⟩
      rcases Nat.lt_trichotomy j pre.length with h | h | h
      · exact h2.2 j u v (by rw [List.getElem?_append_left h] at hu ⊢; exact hu) hv
      · subst h
        simp at hu
        subst hu
        have := h2.2 pre.length (.val (.slice none 0 0)) v (by simp) hv
        rw [this.val_inv]
        exact .own (.inl ⟨rfl, rfl⟩)
      · refine h2.2 j u v ?_ hv
        rw [List.getElem?_append_right (by omega)] at hu ⊢
        cases hn : j - pre.length with
        | zero => omega
        | succ n => rw [hn] at hu; simpa using hu
    · exact hs.ents e (List.mem_cons_of_mem _ he)
  obtain ⟨g1, g2⟩ := st_nilRow hst E hz
  refine ⟨R, hv, g1.perm (List.Perm.swap _ _ _), ⟨fun _ _ h => h, rfl, rfl, rfl, Nat.le_refl _, fun _ _ _ => rfl, fun k hk => .inl ?_, fun _ _ h => .inl h⟩⟩
  simpa [blks, Ent.blk, Value.ownBlock] using hk
theorem Sub.aggHead {σ σ1 : Store} {us us1 rest : List AV} (h : Sub σ us σ1 us1) : Sub σ (.agg us :: rest) σ1 (.agg us1 :: rest) := by
  intro R w vs hv hs
  obtain ⟨hl, hr⟩ := hv
  match vs, hl with
  | v :: vs, hl =>
    obtain ⟨xs, rfl, hx⟩ := (hr 0 _ v rfl rfl).agg_inv
    have hv' : VRs R vs rest := ⟨by simpa using hl, fun j u y hu hy => hr (j + 1) u y (by simpa using hu) (by simpa using hy)⟩
    obtain ⟨R', h1, h2, h3⟩ := h R w xs hx hs
    exact ⟨R', VRs.cons (VR.agg' h1) (hv'.mono h3.ro), h2, h3⟩
theorem cut_snoc {α : Type} [Inhabited α] {l : List α} {p j : Nat} (hp : p ≤ j) (hj : j < l.length) : (l.take (j + 1)).drop p = (l.take j).drop p ++ [l.getD j default] := by
  rw [take_succ_d hj, List.drop_append_of_le_length (by rw [List.length_take]; omega)]
/-- How far a span goes, so far. -/
def toAt (l : List En) (hi : List UInt8) (i : Nat) : Nat := if hi = [] ∨ i ≤ placeN l hi then l.length else placeN l hi + 1
def ref12_SamePath.mark : Mark := ⟨fun t => false, fun t => false, fun t => false, fun t => Nat.beq t 20 || Nat.beq t 24, fun t => false⟩
def ref12_SamePath.ann : Ann := ⟨fun n => bif Nat.beq n 4 then [0, 1, 5] else [], fun n => none, fun n => none⟩
/-- 'marlstone/marlstoneref12.SamePath' -/
def ref12_SamePath.sh (a0 a1 : AV) (σ : Store) (Q : AEnd → Store → Prop) : Prop :=
  Do (aBuiltin Go.Proofs.Try.prog .len #[28] [a0]) fun t7 =>
  Do (aBuiltin Go.Proofs.Try.prog .len #[28] [a1]) fun t9 =>
  Do (aBin Go.Proofs.Try.prog .neq 3 t7 t9) fun t10 =>
  aCond t10
    (Q (.ret (.val (.bool false))) σ)
    (aLoop (fun go vs σ =>
    At vs 0 fun s0 => At vs 1 fun s1 => At vs 2 fun s5 => Do (aBuiltin Go.Proofs.Try.prog .len #[28] [s0]) fun t13 =>
    Do (aBin Go.Proofs.Try.prog .lss 3 s5 t13) fun t14 =>
    aCond t14
      (Do (aIndexAddr .slice 32 s0 s5) fun t19 =>
    Do (loadF true 32 t19) fun t20 =>
    Do (aIndexAddr .slice 32 s1 s5) fun t23 =>
    Do (loadF true 32 t23) fun t24 =>
    Do (aBin Go.Proofs.Try.prog .neq 46 t20 t24) fun t25 =>
    aCond t25
      (Q (.ret (.val (.bool false))) σ)
      (Do (aBin Go.Proofs.Try.prog .add 3 s5 (.val (.int .i64 1))) fun t16 =>
    go [s0, s1, t16] σ))
      (Q (.ret (.val (.bool true))) σ))
    [a0, a1, (.val (.int .i64 0))] σ)
theorem ref12_SamePath.eq (a0 a1 : AV) (σ : Store) (Q : AEnd → Store → Prop) : vc (semOf Go.Proofs.Try.prog ref12_SamePath.mark) Go.Proofs.Try.f47.ntmps ref12_SamePath.ann (bodyOf Go.Proofs.Try.f47) (endK [.tmp 4] Q) (argFr [a0, a1]) σ = ref12_SamePath.sh a0 a1 σ Q := by kernel_rfl
theorem ref12_SamePath.go {a0 a1 : AV} {σ : Store} {Q : AEnd → Store → Prop} (h : ref12_SamePath.sh a0 a1 σ Q) : ACalls Go.Proofs.Try.prog 47 [a0, a1] σ Q :=
  acalls_of_eq [.tmp 4] Go.Proofs.Try.func47 (by kernel_rfl) (by kernel_rfl) (by kernel_rfl) (by kernel_rfl) (ref12_SamePath.eq a0 a1 σ Q) h
def ref12_SameOpening.mark : Mark := ⟨fun t => Nat.beq t 24, fun t => false, fun t => Nat.beq t 2 || Nat.beq t 3, fun t => Nat.beq t 6 || Nat.beq t 8 || Nat.beq t 12 || Nat.beq t 15 || Nat.beq t 21 || Nat.beq t 23, fun t => false⟩
def ref12_SameOpening.ann : Ann := ⟨fun n => [], fun n => none, fun n => none⟩
/-- 'marlstone/marlstoneref12.SameOpening' -/
def ref12_SameOpening.sh (a0 a1 : AV) (σ : Store) (Q : AEnd → Store → Prop) : Prop :=
  Do (aFreeze ((a0 : AV)).cells) fun t2 =>
  Do (aFreeze ((a1 : AV)).cells) fun t3 =>
  Do (aFieldAddr 0 1 t2) fun t5 =>
  Do (loadF false 1 t5) fun t6 =>
  Do (aFieldAddr 0 1 t3) fun t7 =>
  Do (loadF false 1 t7) fun t8 =>
  Do (aBin Go.Proofs.Try.prog .eql 3 t6 t8) fun t9 =>
  Do (aGuard t9 true (aFieldAddr 1 1 t2)) fun t11 =>
  Do (aGuard t9 true (loadF false 1 t11)) fun t12 =>
  Do (aGuard t9 true (aConvBS t12)) fun t13 =>
  Do (aGuard t9 true (aFieldAddr 1 1 t3)) fun t14 =>
  Do (aGuard t9 true (loadF false 1 t14)) fun t15 =>
  Do (aGuard t9 true (aConvBS t15)) fun t16 =>
  Do (aGuard t9 true (aBin Go.Proofs.Try.prog .eql 9 t13 t16)) fun t17 =>
  Do (aPick t9 t17 (.val (.bool false))) fun t18 =>
  Do (aGuard t18 true (aFieldAddr 2 1 t2)) fun t20 =>
  Do (aGuard t18 true (loadF false 1 t20)) fun t21 =>
  Do (aGuard t18 true (aFieldAddr 2 1 t3)) fun t22 =>
  Do (aGuard t18 true (loadF false 1 t22)) fun t23 =>
  Do (aGuard t18 true (aPureC Go.Proofs.Try.prog 47 [t21, t23])) fun t24 =>
  Do (aPick t18 t24 (.val (.bool false))) fun t25 =>
  Q (.ret t25) σ
theorem ref12_SameOpening.eq (a0 a1 : AV) (σ : Store) (Q : AEnd → Store → Prop) : vc (semOf Go.Proofs.Try.prog ref12_SameOpening.mark) Go.Proofs.Try.f46.ntmps ref12_SameOpening.ann (bodyOf Go.Proofs.Try.f46) (endK [.tmp 4] Q) (argFr [a0, a1]) σ = ref12_SameOpening.sh a0 a1 σ Q := by kernel_rfl
theorem ref12_SameOpening.go {a0 a1 : AV} {σ : Store} {Q : AEnd → Store → Prop} (h : ref12_SameOpening.sh a0 a1 σ Q) : ACalls Go.Proofs.Try.prog 46 [a0, a1] σ Q :=
  acalls_of_eq [.tmp 4] Go.Proofs.Try.func46 (by kernel_rfl) (by kernel_rfl) (by kernel_rfl) (by kernel_rfl) (ref12_SameOpening.eq a0 a1 σ Q) h
def ref12_SamePoint.mark : Mark := ⟨fun t => Nat.beq t 15 || Nat.beq t 22, fun t => false, fun t => Nat.beq t 2 || Nat.beq t 3, fun t => Nat.beq t 6 || Nat.beq t 8 || Nat.beq t 12 || Nat.beq t 14 || Nat.beq t 19 || Nat.beq t 21, fun t => false⟩
def ref12_SamePoint.ann : Ann := ⟨fun n => [], fun n => none, fun n => none⟩
/-- 'marlstone/marlstoneref12.SamePoint' -/
def ref12_SamePoint.sh (a0 a1 : AV) (σ : Store) (Q : AEnd → Store → Prop) : Prop :=
  Do (aFreeze ((a0 : AV)).cells) fun t2 =>
  Do (aFreeze ((a1 : AV)).cells) fun t3 =>
  Do (aFieldAddr 0 1 t2) fun t5 =>
  Do (loadF false 1 t5) fun t6 =>
  Do (aFieldAddr 0 1 t3) fun t7 =>
  Do (loadF false 1 t7) fun t8 =>
  Do (aBin Go.Proofs.Try.prog .eql 4 t6 t8) fun t9 =>
  Do (aGuard t9 true (aFieldAddr 1 3 t2)) fun t11 =>
  Do (aGuard t9 true (loadF true 3 t11)) fun t12 =>
  Do (aGuard t9 true (aFieldAddr 1 3 t3)) fun t13 =>
  Do (aGuard t9 true (loadF true 3 t13)) fun t14 =>
  Do (aGuard t9 true (aPureC Go.Proofs.Try.prog 46 [t12, t14])) fun t15 =>
  Do (aPick t9 t15 (.val (.bool false))) fun t16 =>
  Do (aGuard t16 true (aFieldAddr 4 3 t2)) fun t18 =>
  Do (aGuard t16 true (loadF true 3 t18)) fun t19 =>
  Do (aGuard t16 true (aFieldAddr 4 3 t3)) fun t20 =>
  Do (aGuard t16 true (loadF true 3 t20)) fun t21 =>
  Do (aGuard t16 true (aPureC Go.Proofs.Try.prog 46 [t19, t21])) fun t22 =>
  Do (aPick t16 t22 (.val (.bool false))) fun t23 =>
  Q (.ret t23) σ
theorem ref12_SamePoint.eq (a0 a1 : AV) (σ : Store) (Q : AEnd → Store → Prop) : vc (semOf Go.Proofs.Try.prog ref12_SamePoint.mark) Go.Proofs.Try.f16.ntmps ref12_SamePoint.ann (bodyOf Go.Proofs.Try.f16) (endK [.tmp 4] Q) (argFr [a0, a1]) σ = ref12_SamePoint.sh a0 a1 σ Q := by kernel_rfl
theorem ref12_SamePoint.go {a0 a1 : AV} {σ : Store} {Q : AEnd → Store → Prop} (h : ref12_SamePoint.sh a0 a1 σ Q) : ACalls Go.Proofs.Try.prog 16 [a0, a1] σ Q :=
  acalls_of_eq [.tmp 4] Go.Proofs.Try.func16 (by kernel_rfl) (by kernel_rfl) (by kernel_rfl) (by kernel_rfl) (ref12_SamePoint.eq a0 a1 σ Q) h
def ref12_SameSpan.mark : Mark := ⟨fun t => Nat.beq t 25, fun t => false, fun t => Nat.beq t 2 || Nat.beq t 3, fun t => Nat.beq t 7 || Nat.beq t 9 || Nat.beq t 13 || Nat.beq t 16 || Nat.beq t 22 || Nat.beq t 24 || Nat.beq t 30 || Nat.beq t 36 || Nat.beq t 39 || Nat.beq t 42 || Nat.beq t 45, fun t => false⟩
def ref12_SameSpan.ann : Ann := ⟨fun n => bif Nat.beq n 4 then [2, 3, 5] else [], fun n => none, fun n => none⟩
/-- 'marlstone/marlstoneref12.SameSpan' -/
def ref12_SameSpan.sh (a0 a1 : AV) (σ : Store) (Q : AEnd → Store → Prop) : Prop :=
  Do (aFreeze ((a0 : AV)).cells) fun t2 =>
  Do (aFreeze ((a1 : AV)).cells) fun t3 =>
  Do (aFieldAddr 0 1 t2) fun t6 =>
  Do (loadF false 1 t6) fun t7 =>
  Do (aFieldAddr 0 1 t3) fun t8 =>
  Do (loadF false 1 t8) fun t9 =>
  Do (aBin Go.Proofs.Try.prog .neq 3 t7 t9) fun t10 =>
  Do (aGuard t10 false (aFieldAddr 1 1 t2)) fun t12 =>
  Do (aGuard t10 false (loadF false 1 t12)) fun t13 =>
  Do (aGuard t10 false (aBuiltin Go.Proofs.Try.prog .len #[37] [t13])) fun t14 =>
  Do (aGuard t10 false (aFieldAddr 1 1 t3)) fun t15 =>
  Do (aGuard t10 false (loadF false 1 t15)) fun t16 =>
  Do (aGuard t10 false (aBuiltin Go.Proofs.Try.prog .len #[37] [t16])) fun t17 =>
  Do (aGuard t10 false (aBin Go.Proofs.Try.prog .neq 3 t14 t17)) fun t18 =>
  Do (aPick t10 (.val (.bool true)) t18) fun t19 =>
  Do (aGuard t19 false (aFieldAddr 2 1 t2)) fun t21 =>
  Do (aGuard t19 false (loadF false 1 t21)) fun t22 =>
  Do (aGuard t19 false (aFieldAddr 2 1 t3)) fun t23 =>
  Do (aGuard t19 false (loadF false 1 t23)) fun t24 =>
  Do (aGuard t19 false (aPureC Go.Proofs.Try.prog 47 [t22, t24])) fun t25 =>
  Do (aGuard t19 false (aUn Go.Proofs.Try.prog .not t25)) fun t26 =>
  Do (aPick t19 (.val (.bool true)) t26) fun t27 =>
  aCond t27
    (Q (.ret (.val (.bool false))) σ)
    (aLoop (fun go vs σ =>
    At vs 0 fun s2 => At vs 1 fun s3 => At vs 2 fun s5 => Do (aFieldAddr 1 1 s2) fun t29 =>
    Do (loadF false 1 t29) fun t30 =>
    Do (aBuiltin Go.Proofs.Try.prog .len #[37] [t30]) fun t31 =>
    Do (aBin Go.Proofs.Try.prog .lss 3 s5 t31) fun t32 =>
    aCond t32
      (Do (aFieldAddr 1 1 s2) fun t35 =>
    Do (loadF false 1 t35) fun t36 =>
    Do (aIndexAddr .slice 1 t36 s5) fun t38 =>
    Do (loadF false 1 t38) fun t39 =>
    Do (aConvBS t39) fun t40 =>
    Do (aFieldAddr 1 1 s3) fun t41 =>
    Do (loadF false 1 t41) fun t42 =>
    Do (aIndexAddr .slice 1 t42 s5) fun t44 =>
    Do (loadF false 1 t44) fun t45 =>
    Do (aConvBS t45) fun t46 =>
    Do (aBin Go.Proofs.Try.prog .neq 9 t40 t46) fun t47 =>
    aCond t47
      (Q (.ret (.val (.bool false))) σ)
      (Do (aBin Go.Proofs.Try.prog .add 3 s5 (.val (.int .i64 1))) fun t34 =>
    go [s2, s3, t34] σ))
      (Q (.ret (.val (.bool true))) σ))
    [t2, t3, (.val (.int .i64 0))] σ)
theorem ref12_SameSpan.eq (a0 a1 : AV) (σ : Store) (Q : AEnd → Store → Prop) : vc (semOf Go.Proofs.Try.prog ref12_SameSpan.mark) Go.Proofs.Try.f17.ntmps ref12_SameSpan.ann (bodyOf Go.Proofs.Try.f17) (endK [.tmp 4] Q) (argFr [a0, a1]) σ = ref12_SameSpan.sh a0 a1 σ Q := by kernel_rfl
theorem ref12_SameSpan.go {a0 a1 : AV} {σ : Store} {Q : AEnd → Store → Prop} (h : ref12_SameSpan.sh a0 a1 σ Q) : ACalls Go.Proofs.Try.prog 17 [a0, a1] σ Q :=
  acalls_of_eq [.tmp 4] Go.Proofs.Try.func17 (by kernel_rfl) (by kernel_rfl) (by kernel_rfl) (by kernel_rfl) (ref12_SameSpan.eq a0 a1 σ Q) h
def ref12_ProveSpan.mark : Mark := ⟨fun t => Nat.beq t 20 || Nat.beq t 87 || Nat.beq t 93, fun t => false, fun t => false, fun t => Nat.beq t 30 || Nat.beq t 40 || Nat.beq t 63 || Nat.beq t 74 || Nat.beq t 110, fun t => false⟩
def ref12_ProveSpan.ann : Ann := ⟨fun n => bif Nat.beq n 9 then [0, 1, 2, 3, 8, 11, 12, 13] else bif Nat.beq n 19 then [8, 12, 14, 17, 18] else [], fun n => bif Nat.beq n 13 then some [0, 1, 2, 3, 8, 11, 12, 13] else none, fun n => none⟩
/-- 'marlstone/marlstoneref12.ProveSpan' -/
def ref12_ProveSpan.sh (a0 a1 a2 a3 : AV) (σ : Store) (Q : AEnd → Store → Prop) : Prop :=
  aNewVar 39 [.val (.int .i64 0), .val (.slice none 0 0), .val (.slice none 0 0)] σ fun t8 σ =>
  Do (aPureC Go.Proofs.Try.prog 39 [a1]) fun t20 =>
  Do (aUn Go.Proofs.Try.prog .not t20) fun t22 =>
  aCond t22
    (Do (aLit [.val (.int .i64 0), .val (.slice none 0 0), .val (.slice none 0 0)] [(0, 1), (1, 1), (2, 1)] []) fun t23 =>
    storeA 3 t8 t23 σ fun u σ_1 =>
    Do (loadA true 3 t8 σ_1) fun r8 => Q (.ret (.tuple [r8, (.val (.int .i64 1))])) σ_1)
    (Do (aBuiltin Go.Proofs.Try.prog .len #[22] [a1]) fun t26 =>
  Do (aBin Go.Proofs.Try.prog .sub 3 t26 (.val (.int .i64 1))) fun t27 =>
  Do (aIndexAddr .slice 4 a1 t27) fun t28 =>
  Do (aFieldAddr 0 1 t28) fun t29 =>
  Do (loadF false 1 t29) fun t30 =>
  Do (aBin Go.Proofs.Try.prog .lss 9 t30 a2) fun t32 =>
  Do (aGuard t32 false (aIs a3)) fun t34 =>
  Do (aGuard t32 false (aBin Go.Proofs.Try.prog .neq 9 t34 (.val (.string ⟨#[]⟩)))) fun t35 =>
  Do (aGuard t32 false (aIs t35)) fun t36 =>
  Do (aGuard t36 true (aIs a1)) fun t37 =>
  Do (aGuard t36 true (aIndexAddr .slice 4 t37 (.val (.int .i64 0)))) fun t38 =>
  Do (aGuard t36 true (aFieldAddr 0 1 t38)) fun t39 =>
  Do (aGuard t36 true (loadF false 1 t39)) fun t40 =>
  Do (aGuard t36 true (aIs a3)) fun t41 =>
  Do (aGuard t36 true (aBin Go.Proofs.Try.prog .geq 9 t40 t41)) fun t42 =>
  Do (aGuard t36 true (aIs t42)) fun t43 =>
  Do (aGuard t43 false (aIs a3)) fun t44 =>
  Do (aGuard t43 false (aIs a2)) fun t45 =>
  Do (aGuard t43 false (aBin Go.Proofs.Try.prog .leq 9 t44 t45)) fun t46 =>
  Do (aGuard t36 true (aPick t43 (.val (.bool true)) t46)) fun t47 =>
  Do (aGuard t32 false (aPick t36 t47 (.val (.bool false)))) fun t48 =>
  Do (aPick t32 (.val (.bool true)) t48) fun t49 =>
  aCond t49
    (Do (aLit [.val (.int .i64 0), .val (.slice none 0 0), .val (.slice none 0 0)] [(0, 1), (1, 1), (2, 1)] []) fun t50 =>
    storeA 3 t8 t50 σ fun u_1 σ_2 =>
    Do (loadA true 3 t8 σ_2) fun r8_1 => Q (.ret (.tuple [r8_1, (.val (.int .i64 5))])) σ_2)
    (Do (aBuiltin Go.Proofs.Try.prog .len #[22] [a1]) fun t52 =>
  aLoop (fun go vs σ_3 =>
    At vs 0 fun s0 => At vs 1 fun s1 => At vs 2 fun s2 => At vs 3 fun s3 => At vs 4 fun s8 => At vs 5 fun s11 => At vs 6 fun s12 => At vs 7 fun s13 => Do (aBuiltin Go.Proofs.Try.prog .len #[22] [s1]) fun t55 =>
    Do (aBin Go.Proofs.Try.prog .lss 3 s13 t55) fun t56 =>
    aCond t56
      (aJoin (fun j =>
      Do (aIndexAddr .slice 4 s1 s13) fun t61 =>
      Do (aFieldAddr 0 1 t61) fun t62 =>
      Do (loadF false 1 t62) fun t63 =>
      Do (aBin Go.Proofs.Try.prog .lss 9 t63 s2) fun t65 =>
      aCond t65
        (j [s0, s1, s2, s3, s8, s13, s12, s13] σ_3)
        (j [s0, s1, s2, s3, s8, s11, s12, s13] σ_3)) fun vs_1 σ_4 =>
    At vs_1 0 fun s0_1 => At vs_1 1 fun s1_1 => At vs_1 2 fun s2_1 => At vs_1 3 fun s3_1 => At vs_1 4 fun s8_1 => At vs_1 5 fun s11_1 => At vs_1 6 fun s12_1 => At vs_1 7 fun s13_1 => Do (aBin Go.Proofs.Try.prog .neq 9 s3_1 (.val (.string ⟨#[]⟩))) fun t68 =>
    Do (aGuard t68 true (aIs s1_1)) fun t70 =>
    Do (aGuard t68 true (aIs s13_1)) fun t71 =>
    Do (aGuard t68 true (aIndexAddr .slice 4 t70 t71)) fun t72 =>
    Do (aGuard t68 true (aFieldAddr 0 1 t72)) fun t73 =>
    Do (aGuard t68 true (loadF false 1 t73)) fun t74 =>
    Do (aGuard t68 true (aIs s3_1)) fun t75 =>
    Do (aGuard t68 true (aBin Go.Proofs.Try.prog .geq 9 t74 t75)) fun t76 =>
    Do (aPick t68 t76 (.val (.bool false))) fun t77 =>
    Do (aGuard t77 true (aIs s12_1)) fun t79 =>
    Do (aGuard t77 true (aIs s1_1)) fun t80 =>
    Do (aGuard t77 true (aBuiltin Go.Proofs.Try.prog .len #[22] [t80])) fun t81 =>
    Do (aGuard t77 true (aBin Go.Proofs.Try.prog .eql 3 t79 t81)) fun t82 =>
    Do (aPick t77 t82 (.val (.bool false))) fun t83 =>
    aCond t83
      (Do (aBin Go.Proofs.Try.prog .add 3 s13_1 (.val (.int .i64 1))) fun t85 =>
      Do (aBin Go.Proofs.Try.prog .add 3 s13_1 (.val (.int .i64 1))) fun t58 =>
    go [s0_1, s1_1, s2_1, s3_1, s8_1, s11_1, t85, t58] σ_4)
      (Do (aBin Go.Proofs.Try.prog .add 3 s13_1 (.val (.int .i64 1))) fun t58_1 =>
    go [s0_1, s1_1, s2_1, s3_1, s8_1, s11_1, s12_1, t58_1] σ_4))
      (Do (aPureC Go.Proofs.Try.prog 40 [s1]) fun t87 =>
  Do (aPureC Go.Proofs.Try.prog 45 [s0, t87, s11, s12]) fun t93 =>
  Do (aExt t93 0) fun t94 =>
  Do (aExt t93 1) fun t95 =>
  Do (aLit [.val (.int .i64 0), .val (.slice none 0 0), .val (.slice none 0 0)] [(0, 1), (1, 1), (2, 1)] [(0, s11), (2, t94)]) fun t98 =>
  aNewVar 39 [.val (.int .i64 0), .val (.slice none 0 0), .val (.slice none 0 0)] σ_3 fun t17 σ_5 =>
  storeA 3 t17 t98 σ_5 fun u_2 σ_6 =>
  aLoop (fun go_1 vs_2 σ_7 =>
    At vs_2 0 fun s8_2 => At vs_2 1 fun s12_2 => At vs_2 2 fun s14 => At vs_2 3 fun s17 => At vs_2 4 fun s18 => Do (aBin Go.Proofs.Try.prog .lss 3 s18 s12_2) fun t102 =>
    aCond t102
      (Do (aFieldAddr 1 1 s17) fun t105 =>
    Do (loadA false 1 t105 σ_7) fun t106 =>
    Do (aIndexAddr .slice 1 s14 s18) fun t109 =>
    Do (loadF false 1 t109) fun t110 =>
    Do (aConvSB t110) fun t111 =>
    Do (aSlLit (mkE [.val (.slice none 0 0)]) 1 1 [(0, t111)]) fun t112 =>
    aAppend 27 1 24 t106 t112 σ_7 (subK fun t113 σ_8 =>
    Do (aFieldAddr 1 1 s17) fun t114 =>
    storeA 1 t114 t113 σ_8 fun u_3 σ_9 =>
    Do (aBin Go.Proofs.Try.prog .add 3 s18 (.val (.int .i64 1))) fun t104 =>
    go_1 [s8_2, s12_2, s14, s17, t104] σ_9))
      (Do (loadA true 3 s17 σ_7) fun t115 =>
  storeA 3 s8_2 t115 σ_7 fun u_4 σ_10 =>
  Do (loadA true 3 s8_2 σ_10) fun r8_2 => Q (.ret (.tuple [r8_2, (.val (.int .i64 0))])) σ_10))
    [s8, s12, t87, t17, s11] σ_6))
    [a0, a1, a2, a3, t8, (.val (.int .i64 0)), t52, (.val (.int .i64 0))] σ))
theorem ref12_ProveSpan.eq (a0 a1 a2 a3 : AV) (σ : Store) (Q : AEnd → Store → Prop) : vc (semOf Go.Proofs.Try.prog ref12_ProveSpan.mark) Go.Proofs.Try.f15.ntmps ref12_ProveSpan.ann (bodyOf Go.Proofs.Try.f15) (endK [.cell 8 true 3, .tmp 9] Q) (argFr [a0, a1, a2, a3]) σ = ref12_ProveSpan.sh a0 a1 a2 a3 σ Q := by kernel_rfl
theorem ref12_ProveSpan.go {a0 a1 a2 a3 : AV} {σ : Store} {Q : AEnd → Store → Prop} (h : ref12_ProveSpan.sh a0 a1 a2 a3 σ Q) : ACalls Go.Proofs.Try.prog 15 [a0, a1, a2, a3] σ Q :=
  acalls_of_eq [.cell 8 true 3, .tmp 9] Go.Proofs.Try.func15 (by kernel_rfl) (by kernel_rfl) (by kernel_rfl) (by kernel_rfl) (ref12_ProveSpan.eq a0 a1 a2 a3 σ Q) h
def ref12_CheckSpan.mark : Mark := ⟨fun t => Nat.beq t 29 || Nat.beq t 66, fun t => false, fun t => Nat.beq t 6 || Nat.beq t 9, fun t => Nat.beq t 24 || Nat.beq t 26 || Nat.beq t 39 || Nat.beq t 44 || Nat.beq t 49 || Nat.beq t 51 || Nat.beq t 61 || Nat.beq t 64 || Nat.beq t 73 || Nat.beq t 76 || Nat.beq t 86 || Nat.beq t 88 || Nat.beq t 90 || Nat.beq t 93 || Nat.beq t 112 || Nat.beq t 131 || Nat.beq t 135, fun t => Nat.beq t 94 || Nat.beq t 96⟩
def ref12_CheckSpan.ann : Ann := ⟨fun n => bif Nat.beq n 8 then [0, 2, 3, 6, 9, 12, 14, 15, 16] else bif Nat.beq n 21 then [2, 3, 12, 15, 21, 22] else [], fun n => none, fun n => none⟩
theorem SamePath_ok (p : List D32) (m m' : SM) (hp : p.length ≤ 9223372036854775807) : aPure Go.Proofs.Try.prog 47 [.lst 32 (p.map dgF) m, .lst 32 (p.map dgF) m'] (B true) := by
  refine ref12_SamePath.go ?_
  unfold ref12_SamePath.sh
  have h0 : p.length = p.length := rfl
  repeat' (first | with_reducible apply Stp.go | with_reducible refine imp fun _ => ?_ | (with_reducible refine hyp ?_ ?_; first | assumption | exact leftT_mem (by assumption)) | (with_reducible refine need ?_ ?_; first | trivial | omega | exact ⟨by assumption, by omega⟩ | (simp only [List.length_append, List.length_cons, List.length_nil, List.length_map, List.length_take, List.length_drop, List.length_replicate, List.length_set]; omega)) | (with_reducible refine fact ?_ ?_; first | trivial | exact ⟨rfl, rfl⟩ | kernel_rfl) | with_reducible refine choT (by assumption) ?_ | with_reducible refine choF (by assumption) ?_ | with_reducible refine choF' (by assumption) ?_ | (with_reducible refine altT ?_ ?_; first | omega | (simp only [List.length_append, List.length_cons, List.length_nil, List.length_map, List.length_take, List.length_drop, List.length_replicate, List.length_set]; omega)) | with_reducible refine altF ?_ | with_reducible refine all fun _ => ?_ | with_reducible refine both ?_ ?_ | (with_reducible refine choT ?_ ?_; omega) | (with_reducible refine choF ?_ ?_; omega) | with_reducible refine cho (fun _ => ?_) (fun _ => ?_))
  refine loopI (β := Nat) (fun i => i ≤ p.length) (fun i => [.lst 32 (p.map dgF) m, .lst 32 (p.map dgF) m', I .i64 (i : Nat)]) (fun _ => []) (fun i => p.length - i) 0 (Nat.zero_le _) (Sub.refl _ _) ?_
  intro i hi
  by_cases hlt : i < p.length
  · have h32 := (p.getD i default).len
    have h33 : (p.getD i default).val.length = 32 ∧ (p.getD i default).val.length = 32 := ⟨h32, h32⟩
    have he : (p.getD i default).val = (p.getD i default).val := rfl
    repeat' (first | with_reducible apply Stp.go | with_reducible refine imp fun _ => ?_ | (with_reducible refine hyp ?_ ?_; first | assumption | exact leftT_mem (by assumption)) | (with_reducible refine need ?_ ?_; first | trivial | omega | exact ⟨by assumption, by omega⟩ | (simp only [List.length_append, List.length_cons, List.length_nil, List.length_map, List.length_take, List.length_drop, List.length_replicate, List.length_set]; omega)) | (with_reducible refine fact ?_ ?_; first | trivial | exact ⟨rfl, rfl⟩ | kernel_rfl) | with_reducible refine choT (by assumption) ?_ | with_reducible refine choF (by assumption) ?_ | with_reducible refine choF' (by assumption) ?_ | (with_reducible refine altT ?_ ?_; first | omega | (simp only [List.length_append, List.length_cons, List.length_nil, List.length_map, List.length_take, List.length_drop, List.length_replicate, List.length_set]; omega)) | with_reducible refine altF ?_ | with_reducible refine all fun _ => ?_ | with_reducible refine both ?_ ?_ | (with_reducible refine choT ?_ ?_; omega) | (with_reducible refine choF ?_ ?_; omega) | with_reducible refine cho (fun _ => ?_) (fun _ => ?_))
    exact again (i + 1) (by omega) (by omega) (Sub.refl _ _)
  · repeat' (first | with_reducible apply Stp.go | with_reducible refine imp fun _ => ?_ | (with_reducible refine hyp ?_ ?_; first | assumption | exact leftT_mem (by assumption)) | (with_reducible refine need ?_ ?_; first | trivial | omega | exact ⟨by assumption, by omega⟩ | (simp only [List.length_append, List.length_cons, List.length_nil, List.length_map, List.length_take, List.length_drop, List.length_replicate, List.length_set]; omega)) | (with_reducible refine fact ?_ ?_; first | trivial | exact ⟨rfl, rfl⟩ | kernel_rfl) | with_reducible refine choT (by assumption) ?_ | with_reducible refine choF (by assumption) ?_ | with_reducible refine choF' (by assumption) ?_ | (with_reducible refine altT ?_ ?_; first | omega | (simp only [List.length_append, List.length_cons, List.length_nil, List.length_map, List.length_take, List.length_drop, List.length_replicate, List.length_set]; omega)) | with_reducible refine altF ?_ | with_reducible refine all fun _ => ?_ | with_reducible refine both ?_ ?_ | (with_reducible refine choT ?_ ?_; omega) | (with_reducible refine choF ?_ ?_; omega) | with_reducible refine cho (fun _ => ?_) (fun _ => ?_))
    exact ⟨rfl, rfl⟩
instance {p : List D32} {m m' : SM} : PC Go.Proofs.Try.prog 47 [.lst 32 (p.map dgF) m, .lst 32 (p.map dgF) m'] (p.length ≤ 9223372036854775807) (B true) := ⟨fun h => PC.of (SamePath_ok p m m' h)⟩
theorem SameOpening_ok (x : Opn) (hx : x.2.2.length ≤ 9223372036854775807) : aPure Go.Proofs.Try.prog 46 [.agg (opCs x), .agg (opCs x)] (B true) := by
  refine ACalls.fin (ref12_SameOpening.go ?_)
  unfold ref12_SameOpening.sh
  have h1 : x.1 = x.1 := rfl
  have h2 : x.2.1 = x.2.1 := rfl
  repeat' (first | with_reducible apply Stp.go | with_reducible refine imp fun _ => ?_ | (with_reducible refine hyp ?_ ?_; first | assumption | exact leftT_mem (by assumption)) | (with_reducible refine need ?_ ?_; first | trivial | omega | exact ⟨by assumption, by omega⟩ | (simp only [List.length_append, List.length_cons, List.length_nil, List.length_map, List.length_take, List.length_drop, List.length_replicate, List.length_set]; omega)) | (with_reducible refine fact ?_ ?_; first | trivial | exact ⟨rfl, rfl⟩ | kernel_rfl) | with_reducible refine choT (by assumption) ?_ | with_reducible refine choF (by assumption) ?_ | with_reducible refine choF' (by assumption) ?_ | (with_reducible refine altT ?_ ?_; first | omega | (simp only [List.length_append, List.length_cons, List.length_nil, List.length_map, List.length_take, List.length_drop, List.length_replicate, List.length_set]; omega)) | with_reducible refine altF ?_ | with_reducible refine all fun _ => ?_ | with_reducible refine both ?_ ?_ | (with_reducible refine choT ?_ ?_; omega) | (with_reducible refine choF ?_ ?_; omega) | with_reducible refine cho (fun _ => ?_) (fun _ => ?_))
  exact ⟨_, _, _, rfl, Sub.app_nil _, rfl, rfl⟩
instance {x : Opn} : PC Go.Proofs.Try.prog 46 [.agg (opCs x), .agg (opCs x)] (x.2.2.length ≤ 9223372036854775807) (B true) := ⟨fun h => PC.of (SameOpening_ok x h)⟩
theorem SamePoint_ok (bt : Bool) (x y : Opn) (hx : x.2.2.length ≤ 9223372036854775807) (hy : y.2.2.length ≤ 9223372036854775807) : aPure Go.Proofs.Try.prog 16 [ptA bt x y, ptA bt x y] (B true) := by
  refine ACalls.fin (ref12_SamePoint.go ?_)
  unfold ref12_SamePoint.sh
  have h1 : bt = bt := rfl
  have ht : (true : Bool) = true := rfl
  repeat' (first | with_reducible apply Stp.go | with_reducible refine imp fun _ => ?_ | (with_reducible refine hyp ?_ ?_; first | assumption | exact leftT_mem (by assumption)) | (with_reducible refine need ?_ ?_; first | trivial | omega | exact ⟨by assumption, by omega⟩ | (simp only [List.length_append, List.length_cons, List.length_nil, List.length_map, List.length_take, List.length_drop, List.length_replicate, List.length_set]; omega)) | (with_reducible refine fact ?_ ?_; first | trivial | exact ⟨rfl, rfl⟩ | kernel_rfl) | with_reducible refine choT (by assumption) ?_ | with_reducible refine choF (by assumption) ?_ | with_reducible refine choF' (by assumption) ?_ | (with_reducible refine altT ?_ ?_; first | omega | (simp only [List.length_append, List.length_cons, List.length_nil, List.length_map, List.length_take, List.length_drop, List.length_replicate, List.length_set]; omega)) | with_reducible refine altF ?_ | with_reducible refine all fun _ => ?_ | with_reducible refine both ?_ ?_ | (with_reducible refine choT ?_ ?_; omega) | (with_reducible refine choF ?_ ?_; omega) | with_reducible refine cho (fun _ => ?_) (fun _ => ?_))
  exact ⟨_, _, _, rfl, Sub.app_nil _, rfl, rfl⟩
instance {bt : Bool} {x y : Opn} : PC Go.Proofs.Try.prog 16 [ptA bt x y, ptA bt x y] (x.2.2.length ≤ 9223372036854775807 ∧ y.2.2.length ≤ 9223372036854775807) (B true) := ⟨fun h => PC.of (SamePoint_ok bt x y h.1 h.2)⟩
theorem SameSpan_ok (p : Int) (L : List (List UInt8)) (d : List D32) (hL : L.length ≤ 9223372036854775807) (hd : d.length ≤ 9223372036854775807) : aPure Go.Proofs.Try.prog 17 [spA p L d, spA p L d] (B true) := by
  refine ACalls.fin (ref12_SameSpan.go ?_)
  unfold ref12_SameSpan.sh
  have h0 : p = p := rfl
  have h1 : L.length = L.length := rfl
  have ht : (true : Bool) = true := rfl
  repeat' (first | with_reducible apply Stp.go | with_reducible refine imp fun _ => ?_ | (with_reducible refine hyp ?_ ?_; first | assumption | exact leftT_mem (by assumption)) | (with_reducible refine need ?_ ?_; first | trivial | omega | exact ⟨by assumption, by omega⟩ | (simp only [List.length_append, List.length_cons, List.length_nil, List.length_map, List.length_take, List.length_drop, List.length_replicate, List.length_set]; omega)) | (with_reducible refine fact ?_ ?_; first | trivial | exact ⟨rfl, rfl⟩ | kernel_rfl) | with_reducible refine choT (by assumption) ?_ | with_reducible refine choF (by assumption) ?_ | with_reducible refine choF' (by assumption) ?_ | (with_reducible refine altT ?_ ?_; first | omega | (simp only [List.length_append, List.length_cons, List.length_nil, List.length_map, List.length_take, List.length_drop, List.length_replicate, List.length_set]; omega)) | with_reducible refine altF ?_ | with_reducible refine all fun _ => ?_ | with_reducible refine both ?_ ?_ | (with_reducible refine choT ?_ ?_; omega) | (with_reducible refine choF ?_ ?_; omega) | with_reducible refine cho (fun _ => ?_) (fun _ => ?_))
  refine loopI (β := Nat) (fun i => i ≤ L.length) (fun i => [.rptr [I .i64 p, .lst 1 (L.map bl) .ro, .lst 32 (d.map dgF) .ro], .rptr [I .i64 p, .lst 1 (L.map bl) .ro, .lst 32 (d.map dgF) .ro], I .i64 (i : Nat)]) (fun _ => []) (fun i => L.length - i) 0 (Nat.zero_le _) (Sub.refl _ _) ?_
  intro i hi
  by_cases hlt : i < L.length
  · have he : L.getD i default = L.getD i default := rfl
    repeat' (first | with_reducible apply Stp.go | with_reducible refine imp fun _ => ?_ | (with_reducible refine hyp ?_ ?_; first | assumption | exact leftT_mem (by assumption)) | (with_reducible refine need ?_ ?_; first | trivial | omega | exact ⟨by assumption, by omega⟩ | (simp only [List.length_append, List.length_cons, List.length_nil, List.length_map, List.length_take, List.length_drop, List.length_replicate, List.length_set]; omega)) | (with_reducible refine fact ?_ ?_; first | trivial | exact ⟨rfl, rfl⟩ | kernel_rfl) | with_reducible refine choT (by assumption) ?_ | with_reducible refine choF (by assumption) ?_ | with_reducible refine choF' (by assumption) ?_ | (with_reducible refine altT ?_ ?_; first | omega | (simp only [List.length_append, List.length_cons, List.length_nil, List.length_map, List.length_take, List.length_drop, List.length_replicate, List.length_set]; omega)) | with_reducible refine altF ?_ | with_reducible refine all fun _ => ?_ | with_reducible refine both ?_ ?_ | (with_reducible refine choT ?_ ?_; omega) | (with_reducible refine choF ?_ ?_; omega) | with_reducible refine cho (fun _ => ?_) (fun _ => ?_))
    exact again (i + 1) (by omega) (by omega) (Sub.refl _ _)
  · repeat' (first | with_reducible apply Stp.go | with_reducible refine imp fun _ => ?_ | (with_reducible refine hyp ?_ ?_; first | assumption | exact leftT_mem (by assumption)) | (with_reducible refine need ?_ ?_; first | trivial | omega | exact ⟨by assumption, by omega⟩ | (simp only [List.length_append, List.length_cons, List.length_nil, List.length_map, List.length_take, List.length_drop, List.length_replicate, List.length_set]; omega)) | (with_reducible refine fact ?_ ?_; first | trivial | exact ⟨rfl, rfl⟩ | kernel_rfl) | with_reducible refine choT (by assumption) ?_ | with_reducible refine choF (by assumption) ?_ | with_reducible refine choF' (by assumption) ?_ | (with_reducible refine altT ?_ ?_; first | omega | (simp only [List.length_append, List.length_cons, List.length_nil, List.length_map, List.length_take, List.length_drop, List.length_replicate, List.length_set]; omega)) | with_reducible refine altF ?_ | with_reducible refine all fun _ => ?_ | with_reducible refine both ?_ ?_ | (with_reducible refine choT ?_ ?_; omega) | (with_reducible refine choF ?_ ?_; omega) | with_reducible refine cho (fun _ => ?_) (fun _ => ?_))
    exact ⟨_, _, _, rfl, Sub.app_nil _, rfl, rfl⟩
instance {p : Int} {L : List (List UInt8)} {d : List D32} : PC Go.Proofs.Try.prog 17 [spA p L d, spA p L d] (L.length ≤ 9223372036854775807 ∧ d.length ≤ 9223372036854775807) (B true) := ⟨fun h => PC.of (SameSpan_ok p L d h.1 h.2)⟩
instance (b : List UInt8) : AsF bl (.lst 1 (b.map byt) .ro) b := ⟨rfl⟩
theorem ref12_ProveSpan_ok (b : Int) (l : List En) (m : SM) (lo hi : List UInt8) (hl : l.length ≤ 1000000) : aPure Go.Proofs.Try.prog 15 [I .i64 b, .lst 4 (l.map En.av) m, S lo, S hi] (.tuple [spA ((spanP b l lo hi).2.1 : Nat) (spanP b l lo hi).2.2.1 (spanP b l lo hi).2.2.2, I .i64 ((spanP b l lo hi).1 : Nat)]) := by
  refine ACalls.fin (ref12_ProveSpan.go ?_)
  unfold ref12_ProveSpan.sh
  have hb : ∀ b ∈ l.map enB, b.length ≤ 10000000000000 := fun b h => by
    obtain ⟨e, _, rfl⟩ := List.mem_map.1 h
    have := enB_length e
    omega
  have hml : (l.map enB).length = l.length := by simp
  have hL : (l.map enB).length ≤ 1000000 := by omega
  by_cases hf : fit l = true
  · have hr : Rises l := (sorted_iff l).1 (fit_right hf).2.2.1
    have h0 : 0 < l.length := (fit_right hf).2.1
    have hso : spanOk l lo hi = (!Op.bytesLess (l.getD (l.length - 1) default).key lo && ((decide (hi = []) || !!Op.bytesLess (l.getD 0 default).key hi) && (decide (hi = []) || !(Op.bytesLess hi lo || decide (hi = lo))))) := by
      show _ = (!lt _ lo && ((_ || !!lt _ hi) && (_ || !(lt hi lo || _))))
      rw [spanOk, belowB, belowB, lt_flip lo hi, Bool.not_not]
    cases hs : spanOk l lo hi with
    | false =>
      have e : spanP b l lo hi = (5, 0, [], []) := by rw [spanP, if_pos hf, if_neg (by rw [hs]; decide)]
      rw [e]
      rw [hs] at hso
      repeat' (first | with_reducible apply Stp.go | with_reducible refine imp fun _ => ?_ | (with_reducible refine hyp ?_ ?_; first | assumption | exact leftT_mem (by assumption)) | (with_reducible refine need ?_ ?_; first | trivial | omega | exact ⟨by assumption, by omega⟩ | (simp only [List.length_append, List.length_cons, List.length_nil, List.length_map, List.length_take, List.length_drop, List.length_replicate, List.length_set]; omega)) | (with_reducible refine fact ?_ ?_; first | trivial | exact ⟨rfl, rfl⟩ | kernel_rfl) | with_reducible refine choT (by assumption) ?_ | with_reducible refine choF (by assumption) ?_ | with_reducible refine choF' (by assumption) ?_ | (with_reducible refine altT ?_ ?_; first | omega | (simp only [List.length_append, List.length_cons, List.length_nil, List.length_map, List.length_take, List.length_drop, List.length_replicate, List.length_set]; omega)) | with_reducible refine altF ?_ | with_reducible refine all fun _ => ?_ | with_reducible refine both ?_ ?_ | (with_reducible refine choT ?_ ?_; omega) | (with_reducible refine choF ?_ ?_; omega) | with_reducible refine cho (fun _ => ?_) (fun _ => ?_))
      all_goals first
        | exact ⟨_, _, _, rfl, Sub.trans (Sub.app_nil _) (Sub.tuple (Sub.vals (.mk (spSub _) (.mk (SubV.refl _) .nl)))), rfl, rfl⟩
        | (exfalso; simp_all)
        | trace_state
    | true =>
      have e : spanP b l lo hi = (0, spFrom l lo, ((l.map enB).take (spTo l hi)).drop (spFrom l lo), bsD b (l.map enB) (spFrom l lo) (spTo l hi)) := by rw [spanP, if_pos hf, if_pos hs]
      rw [e]
      obtain ⟨g1, g2, g3⟩ := spanOk_lt hr h0 hs
      rw [hs] at hso
      have hpl := placeN_le l lo
      have hph := placeN_le l hi
      have hpa := fun i (h : i < l.length) => place_at hr lo (i := i) h
      have hpb := fun i (h : i < l.length) => place_at hr hi (i := i) h
      have hFrom : spFrom l lo = min l.length (placeN l lo) - 1 := by unfold spFrom; omega
      have hTo : toAt l hi l.length = spTo l hi := by
        unfold toAt spTo
        by_cases h1 : hi = []
        · rw [if_pos (.inl h1), if_pos h1]; omega
        · rw [if_neg h1]
          split
          · rename_i h2
            rcases h2 with h2 | h2
            · exact absurd h2 h1
            · omega
          · rename_i h2
            have h3 : ¬ l.length ≤ placeN l hi := fun h => h2 (.inr h)
            omega
      have hcase : ¬ Op.bytesLess (l.getD (l.length - 1) default).key lo = true ∧ (hi = [] ∨ (¬ hi = [] ∧ Op.bytesLess (l.getD 0 default).key hi = true ∧ ¬ (Op.bytesLess hi lo || decide (hi = lo)) = true)) := by
        have hso := hso.symm
        rw [Bool.and_eq_true, Bool.and_eq_true, Bool.not_eq_true', Bool.not_not, Bool.or_eq_true, Bool.or_eq_true, Bool.not_eq_true', decide_eq_true_eq] at hso
        obtain ⟨a1, a2, a3⟩ := hso
        refine ⟨by rw [a1]; decide, ?_⟩
        by_cases hh : hi = []
        · exact .inl hh
        · rcases a2 with a2 | a2
          · exact absurd a2 hh
          · rcases a3 with a3 | a3
            · exact absurd a3 hh
            · exact .inr ⟨hh, a2, by rw [a3]; decide⟩
      obtain ⟨c1, hcase⟩ := hcase
      rcases hcase with hh | ⟨hh, c2, c3⟩
      all_goals repeat' (first | with_reducible apply Stp.go | with_reducible refine imp fun _ => ?_ | (with_reducible refine hyp ?_ ?_; first | assumption | exact leftT_mem (by assumption)) | (with_reducible refine need ?_ ?_; first | trivial | omega | exact ⟨by assumption, by omega⟩ | (simp only [List.length_append, List.length_cons, List.length_nil, List.length_map, List.length_take, List.length_drop, List.length_replicate, List.length_set]; omega)) | (with_reducible refine fact ?_ ?_; first | trivial | exact ⟨rfl, rfl⟩ | kernel_rfl) | with_reducible refine choT (by assumption) ?_ | with_reducible refine choF (by assumption) ?_ | with_reducible refine choF' (by assumption) ?_ | (with_reducible refine altT ?_ ?_; first | omega | (simp only [List.length_append, List.length_cons, List.length_nil, List.length_map, List.length_take, List.length_drop, List.length_replicate, List.length_set]; omega)) | with_reducible refine altF ?_ | with_reducible refine all fun _ => ?_ | with_reducible refine both ?_ ?_ | (with_reducible refine choT ?_ ?_; omega) | (with_reducible refine choF ?_ ?_; omega) | with_reducible refine cho (fun _ => ?_) (fun _ => ?_))
      all_goals
        rename_i vr
        refine loopI (β := Nat) (fun i => i ≤ l.length) (fun i => [I .i64 b, .lst 4 (l.map En.av) m, S lo, S hi, ptrAt vr 0, I .i64 (min i (placeN l lo) - 1 : Nat), I .i64 (toAt l hi i : Nat), I .i64 (i : Nat)]) (fun _ => [.var vr 39 [I .i64 0, .val (.slice none 0 0), .val (.slice none 0 0)]]) (fun i => l.length - i) 0 (Nat.zero_le _) ?_ ?_
        · have z1 : min 0 (placeN l lo) - 1 = 0 := by omega
          have z2 : toAt l hi 0 = l.length := by rw [toAt, if_pos (.inr (Nat.zero_le _))]
          rw [z1, z2]
          exact Sub.refl _ _
        intro i hi1
        by_cases hlt : i < l.length
        · have ha := hpa i hlt
          have hbb := hpb i hlt
          clear hso hFrom hTo
          have fromT : i < placeN l lo → min (i + 1) (placeN l lo) - 1 = i := fun h => by omega
          have fromF : ¬ i < placeN l lo → min (i + 1) (placeN l lo) - 1 = min i (placeN l lo) - 1 := fun h => by omega
          have toE : hi = [] → toAt l hi (i + 1) = toAt l hi i := fun h => by rw [toAt, toAt, if_pos (.inl h), if_pos (.inl h)]
          have toL : i < placeN l hi → toAt l hi (i + 1) = toAt l hi i := fun h => by rw [toAt, toAt, if_pos (.inr (by omega)), if_pos (.inr (by omega))]
          have toN : ¬ hi = [] → ¬ i < placeN l hi → ¬ toAt l hi i = l.length → toAt l hi (i + 1) = toAt l hi i := fun h1 h2 h3 => by
            have h4 : ¬ (hi = [] ∨ i ≤ placeN l hi) := fun h => h3 (by rw [toAt, if_pos h])
            rw [toAt, toAt, if_neg (by rintro (h | h); exact h1 h; exact h4 (.inr (by omega))), if_neg h4]
          have toS : ¬ hi = [] → ¬ i < placeN l hi → toAt l hi i = l.length → toAt l hi (i + 1) = i + 1 := fun h1 h2 h3 => by
            have h4 : i = placeN l hi := by
              by_cases h5 : i ≤ placeN l hi
              · omega
              · rw [toAt, if_neg (by rintro (h | h); exact h1 h; exact h5 h)] at h3; omega
            rw [toAt, if_neg (by rintro (h | h); exact h1 h; omega)]
            omega
          have nn : ¬ hi = [] → hi ≠ [] := id
          repeat' (first | with_reducible apply Stp.go | with_reducible refine imp fun _ => ?_ | (with_reducible refine hyp ?_ ?_; first | assumption | exact leftT_mem (by assumption)) | (with_reducible refine need ?_ ?_; first | trivial | omega | exact ⟨by assumption, by omega⟩ | (simp only [List.length_append, List.length_cons, List.length_nil, List.length_map, List.length_take, List.length_drop, List.length_replicate, List.length_set]; omega)) | (with_reducible refine fact ?_ ?_; first | trivial | exact ⟨rfl, rfl⟩ | kernel_rfl) | with_reducible refine choT (by assumption) ?_ | with_reducible refine choF (by assumption) ?_ | with_reducible refine choF' (by assumption) ?_ | (with_reducible refine altT ?_ ?_; first | omega | (simp only [List.length_append, List.length_cons, List.length_nil, List.length_map, List.length_take, List.length_drop, List.length_replicate, List.length_set]; omega)) | with_reducible refine altF ?_ | with_reducible refine all fun _ => ?_ | with_reducible refine both ?_ ?_ | (with_reducible refine choT ?_ ?_; omega) | (with_reducible refine choF ?_ ?_; omega) | with_reducible refine cho (fun _ => ?_) (fun _ => ?_))
          refine joinE ?_
          by_cases hA : i < placeN l lo
          · have hA' : Op.bytesLess (l.getD i default).key lo = true := ha.2 hA
            have f1 := fromT hA
            repeat' (first | with_reducible apply Stp.go | with_reducible refine imp fun _ => ?_ | (with_reducible refine hyp ?_ ?_; first | assumption | exact leftT_mem (by assumption)) | (with_reducible refine need ?_ ?_; first | trivial | omega | exact ⟨by assumption, by omega⟩ | (simp only [List.length_append, List.length_cons, List.length_nil, List.length_map, List.length_take, List.length_drop, List.length_replicate, List.length_set]; omega)) | (with_reducible refine fact ?_ ?_; first | trivial | exact ⟨rfl, rfl⟩ | kernel_rfl) | with_reducible refine choT (by assumption) ?_ | with_reducible refine choF (by assumption) ?_ | with_reducible refine choF' (by assumption) ?_ | (with_reducible refine altT ?_ ?_; first | omega | (simp only [List.length_append, List.length_cons, List.length_nil, List.length_map, List.length_take, List.length_drop, List.length_replicate, List.length_set]; omega)) | with_reducible refine altF ?_ | with_reducible refine all fun _ => ?_ | with_reducible refine both ?_ ?_ | (with_reducible refine choT ?_ ?_; omega) | (with_reducible refine choF ?_ ?_; omega) | with_reducible refine cho (fun _ => ?_) (fun _ => ?_))
            all_goals
              refine again (i + 1) (by omega) (by omega) ?_
              rw [f1]
              first
              | (rw [toE (by assumption)]; exact Sub.refl _ _)
              | (rw [toL (hbb.1 (by assumption))]; exact Sub.refl _ _)
              | (rw [toS (by assumption) (fun h => absurd (hbb.2 h) (by assumption)) (by assumption)]; exact Sub.refl _ _)
              | (rw [toN (by assumption) (fun h => absurd (hbb.2 h) (by assumption)) (by assumption)]; exact Sub.refl _ _)
              | trace_state
          · have hA' : ¬ Op.bytesLess (l.getD i default).key lo = true := fun h => hA (ha.1 h)
            have f1 := fromF hA
            repeat' (first | with_reducible apply Stp.go | with_reducible refine imp fun _ => ?_ | (with_reducible refine hyp ?_ ?_; first | assumption | exact leftT_mem (by assumption)) | (with_reducible refine need ?_ ?_; first | trivial | omega | exact ⟨by assumption, by omega⟩ | (simp only [List.length_append, List.length_cons, List.length_nil, List.length_map, List.length_take, List.length_drop, List.length_replicate, List.length_set]; omega)) | (with_reducible refine fact ?_ ?_; first | trivial | exact ⟨rfl, rfl⟩ | kernel_rfl) | with_reducible refine choT (by assumption) ?_ | with_reducible refine choF (by assumption) ?_ | with_reducible refine choF' (by assumption) ?_ | (with_reducible refine altT ?_ ?_; first | omega | (simp only [List.length_append, List.length_cons, List.length_nil, List.length_map, List.length_take, List.length_drop, List.length_replicate, List.length_set]; omega)) | with_reducible refine altF ?_ | with_reducible refine all fun _ => ?_ | with_reducible refine both ?_ ?_ | (with_reducible refine choT ?_ ?_; omega) | (with_reducible refine choF ?_ ?_; omega) | with_reducible refine cho (fun _ => ?_) (fun _ => ?_))
            all_goals
              refine again (i + 1) (by omega) (by omega) ?_
              rw [f1]
              first
              | (rw [toE (by assumption)]; exact Sub.refl _ _)
              | (rw [toL (hbb.1 (by assumption))]; exact Sub.refl _ _)
              | (rw [toS (by assumption) (fun h => absurd (hbb.2 h) (by assumption)) (by assumption)]; exact Sub.refl _ _)
              | (rw [toN (by assumption) (fun h => absurd (hbb.2 h) (by assumption)) (by assumption)]; exact Sub.refl _ _)
              | trace_state
        · have e1 : i = l.length := by omega
          subst e1
          rw [← hFrom, hTo]
          clear hso hFrom hTo hpa hpb
          generalize spFrom l lo = p at *
          generalize spTo l hi = q at *
          have hRg : p < q ∧ q ≤ (l.map enB).length ∧ (l.map enB).length ≤ 1000000 ∧ ∀ b ∈ l.map enB, b.length ≤ 10000000000000 := ⟨g2, by omega, hL, hb⟩
          repeat' (first | with_reducible apply Stp.go | with_reducible refine imp fun _ => ?_ | (with_reducible refine hyp ?_ ?_; first | assumption | exact leftT_mem (by assumption)) | (with_reducible refine need ?_ ?_; first | trivial | omega | exact ⟨by assumption, by omega⟩ | (simp only [List.length_append, List.length_cons, List.length_nil, List.length_map, List.length_take, List.length_drop, List.length_replicate, List.length_set]; omega)) | (with_reducible refine fact ?_ ?_; first | trivial | exact ⟨rfl, rfl⟩ | kernel_rfl) | with_reducible refine choT (by assumption) ?_ | with_reducible refine choF (by assumption) ?_ | with_reducible refine choF' (by assumption) ?_ | (with_reducible refine altT ?_ ?_; first | omega | (simp only [List.length_append, List.length_cons, List.length_nil, List.length_map, List.length_take, List.length_drop, List.length_replicate, List.length_set]; omega)) | with_reducible refine altF ?_ | with_reducible refine all fun _ => ?_ | with_reducible refine both ?_ ?_ | (with_reducible refine choT ?_ ?_; omega) | (with_reducible refine choF ?_ ?_; omega) | with_reducible refine cho (fun _ => ?_) (fun _ => ?_))
          rename_i vs
          generalize l.map enB = M at *
          clear e
          refine loopI (β := Nat × Value) (fun x => p ≤ x.1 ∧ x.1 ≤ q) (fun x => [ptrAt vr 0, I .i64 (q : Nat), .lst 1 (M.map tx) .ro, ptrAt vs 0, I .i64 (x.1 : Nat)])
            (fun x => [.var vs 39 [I .i64 (p : Nat), .own x.2 ((M.take x.1).drop p).length, .lst 32 ((bsD b M p q).map dgF) .ro], .row x.2 LfT 1 (((M.take x.1).drop p).map bl) 0, .var vr 39 [I .i64 0, .val (.slice none 0 0), .val (.slice none 0 0)]]) (fun x => q - x.1) (p, .slice none 0 0) ⟨Nat.le_refl _, by omega⟩ ?_ ?_
          · have z : (M.take p).drop p = [] := List.drop_of_length_le (by rw [List.length_take]; omega)
            dsimp only
            rw [z]
            exact Sub.nilIn (pre := [_]) LfT (sz := 1) (by decide) _
          rintro ⟨j, v⟩ ⟨j1, j2⟩
          dsimp only at j1 j2 ⊢
          have jl : ((M.take j).drop p).length ≤ 1000000 := by rw [List.length_drop, List.length_take]; omega
          by_cases hjq : j < q
          · have hjM : j < M.length := by omega
            have hbj := hb _ (getD_mem hjM)
            repeat' (first | with_reducible apply Stp.go | with_reducible refine imp fun _ => ?_ | (with_reducible refine hyp ?_ ?_; first | assumption | exact leftT_mem (by assumption)) | (with_reducible refine need ?_ ?_; first | trivial | omega | exact ⟨by assumption, by omega⟩ | (simp only [List.length_append, List.length_cons, List.length_nil, List.length_map, List.length_take, List.length_drop, List.length_replicate, List.length_set]; omega)) | (with_reducible refine fact ?_ ?_; first | trivial | exact ⟨rfl, rfl⟩ | kernel_rfl) | with_reducible refine choT (by assumption) ?_ | with_reducible refine choF (by assumption) ?_ | with_reducible refine choF' (by assumption) ?_ | (with_reducible refine altT ?_ ?_; first | omega | (simp only [List.length_append, List.length_cons, List.length_nil, List.length_map, List.length_take, List.length_drop, List.length_replicate, List.length_set]; omega)) | with_reducible refine altF ?_ | with_reducible refine all fun _ => ?_ | with_reducible refine both ?_ ?_ | (with_reducible refine choT ?_ ?_; omega) | (with_reducible refine choF ?_ ?_; omega) | with_reducible refine cho (fun _ => ?_) (fun _ => ?_))
            rename_i w
            refine again (j + 1, w) (by dsimp only; omega) ⟨by dsimp only; omega, by dsimp only; omega⟩ ?_
            dsimp only
            rw [cut_snoc j1 hjM]
            exact Sub.refl _ _
          · have e1 : j = q := by omega
            subst e1
            repeat' (first | with_reducible apply Stp.go | with_reducible refine imp fun _ => ?_ | (with_reducible refine hyp ?_ ?_; first | assumption | exact leftT_mem (by assumption)) | (with_reducible refine need ?_ ?_; first | trivial | omega | exact ⟨by assumption, by omega⟩ | (simp only [List.length_append, List.length_cons, List.length_nil, List.length_map, List.length_take, List.length_drop, List.length_replicate, List.length_set]; omega)) | (with_reducible refine fact ?_ ?_; first | trivial | exact ⟨rfl, rfl⟩ | kernel_rfl) | with_reducible refine choT (by assumption) ?_ | with_reducible refine choF (by assumption) ?_ | with_reducible refine choF' (by assumption) ?_ | (with_reducible refine altT ?_ ?_; first | omega | (simp only [List.length_append, List.length_cons, List.length_nil, List.length_map, List.length_take, List.length_drop, List.length_replicate, List.length_set]; omega)) | with_reducible refine altF ?_ | with_reducible refine all fun _ => ?_ | with_reducible refine both ?_ ?_ | (with_reducible refine choT ?_ ?_; omega) | (with_reducible refine choF ?_ ?_; omega) | with_reducible refine cho (fun _ => ?_) (fun _ => ?_))
            refine ⟨_, _, _, rfl, Sub.tuple (Sub.aggHead (Sub.trans (Sub.freeze (σ1 := [.var vs 39 [I .i64 (p : Nat), .own v ((M.take j).drop p).length, .lst 32 ((bsD b M p j).map dgF) .ro]]) (v := v) (args' := [I .i64 (p : Nat), .lst 1 (((M.take j).drop p).map bl) .ro, .lst 32 ((bsD b M p j).map dgF) .ro]) ?_) (Sub.app_nil _))), rfl, rfl⟩
            exact ⟨.inl rfl, .inr ⟨⟨_, rfl⟩, rfl⟩, .inl rfl, trivial⟩
  · have e : spanP b l lo hi = (1, 0, [], []) := by rw [spanP, if_neg hf]
    rw [e]
    repeat' (first | with_reducible apply Stp.go | with_reducible refine imp fun _ => ?_ | (with_reducible refine hyp ?_ ?_; first | assumption | exact leftT_mem (by assumption)) | (with_reducible refine need ?_ ?_; first | trivial | omega | exact ⟨by assumption, by omega⟩ | (simp only [List.length_append, List.length_cons, List.length_nil, List.length_map, List.length_take, List.length_drop, List.length_replicate, List.length_set]; omega)) | (with_reducible refine fact ?_ ?_; first | trivial | exact ⟨rfl, rfl⟩ | kernel_rfl) | with_reducible refine choT (by assumption) ?_ | with_reducible refine choF (by assumption) ?_ | with_reducible refine choF' (by assumption) ?_ | (with_reducible refine altT ?_ ?_; first | omega | (simp only [List.length_append, List.length_cons, List.length_nil, List.length_map, List.length_take, List.length_drop, List.length_replicate, List.length_set]; omega)) | with_reducible refine altF ?_ | with_reducible refine all fun _ => ?_ | with_reducible refine both ?_ ?_ | (with_reducible refine choT ?_ ?_; omega) | (with_reducible refine choF ?_ ?_; omega) | with_reducible refine cho (fun _ => ?_) (fun _ => ?_))
    exact ⟨_, _, _, rfl, Sub.trans (Sub.app_nil _) (Sub.tuple (Sub.vals (.mk (spSub _) (.mk (SubV.refl _) .nl)))), rfl, rfl⟩
instance {a : AV} {l : List En} {m : SM} {b : Int} {lo hi : List UInt8} [h : IsL a En.av 4 l m] : PC Go.Proofs.Try.prog 15 [I .i64 b, a, S lo, S hi] (l.length ≤ 1000000) (.tuple [spA ((spanP b l lo hi).2.1 : Nat) (spanP b l lo hi).2.2.1 (spanP b l lo hi).2.2.2, I .i64 ((spanP b l lo hi).1 : Nat)]) := ⟨fun hl => ⟨[I .i64 b, .lst 4 (l.map En.av) m, S lo, S hi], ⟨SubV.refl _, h.sub, SubV.refl _, SubV.refl _, trivial⟩, ref12_ProveSpan_ok b l m lo hi hl⟩⟩
end Go.Ab

/- Layer 12: few entries; those that are right, folded. -/
set_option linter.unusedVariables false
set_option linter.unusedSimpArgs false
namespace Go.Ab
def law12_few.mark : Mark := ⟨fun t => false, fun t => false, fun t => false, fun t => Nat.beq t 22, fun t => false⟩
def law12_few.ann : Ann := ⟨fun n => bif Nat.beq n 3 then [0, 1, 5, 6] else [], fun n => none, fun n => none⟩
/-- 'marlstone/marlstonelaw12.few' -/
def law12_few.sh (a0 a1 : AV) (σ : Store) (Q : AEnd → Store → Prop) : Prop :=
  aLoop (fun go vs σ =>
    At vs 0 fun s0 => At vs 1 fun s1 => At vs 2 fun s5 => At vs 3 fun s6 => Do (aBuiltin Go.Proofs.Try.prog .len #[22] [s0]) fun t10 =>
    Do (aBin Go.Proofs.Try.prog .lss 3 s6 t10) fun t11 =>
    Do (aGuard t11 true (aIs s6)) fun t13 =>
    Do (aGuard t11 true (aIs s1)) fun t14 =>
    Do (aGuard t11 true (aBin Go.Proofs.Try.prog .lss 3 t13 t14)) fun t15 =>
    Do (aPick t11 t15 (.val (.bool false))) fun t16 =>
    aCond t16
      (Do (aIndexAddr .slice 4 s0 s6) fun t21 =>
    Do (loadF true 4 t21) fun t22 =>
    aNewVar 54 [.val (.string ⟨#[]⟩), .val (.string ⟨#[]⟩), .val (.bool false), .val (.int .i64 0)] σ fun t7 σ_1 =>
    storeA 4 t7 t22 σ_1 fun u σ_2 =>
    Do (aFieldAddr 0 1 t7) fun t23 =>
    Do (loadA false 1 t23 σ_2) fun t24 =>
    Do (aFieldAddr 0 1 t7) fun t25 =>
    Do (loadA false 1 t25 σ_2) fun t26 =>
    Do (aBuiltin Go.Proofs.Try.prog .len #[9] [t26]) fun t27 =>
    Do (aBuiltin Go.Proofs.Try.prog .min #[3, 3] [t27, (.val (.int .i64 130))]) fun t28 =>
    Do (aSlice .string 1 t24 none (some t28) none) fun t29 =>
    Do (aFieldAddr 0 1 t7) fun t30 =>
    storeA 1 t30 t29 σ_2 fun u_1 σ_3 =>
    Do (aFieldAddr 1 1 t7) fun t31 =>
    Do (loadA false 1 t31 σ_3) fun t32 =>
    Do (aFieldAddr 1 1 t7) fun t33 =>
    Do (loadA false 1 t33 σ_3) fun t34 =>
    Do (aBuiltin Go.Proofs.Try.prog .len #[9] [t34]) fun t35 =>
    Do (aBuiltin Go.Proofs.Try.prog .min #[3, 3] [t35, (.val (.int .i64 1030))]) fun t36 =>
    Do (aSlice .string 1 t32 none (some t36) none) fun t37 =>
    Do (aFieldAddr 1 1 t7) fun t38 =>
    storeA 1 t38 t37 σ_3 fun u_2 σ_4 =>
    Do (loadA true 4 t7 σ_4) fun t40 =>
    Do (aSlLit (mkE [.val (.string ⟨#[]⟩), .val (.string ⟨#[]⟩), .val (.bool false), .val (.int .i64 0)]) 4 1 [(0, t40)]) fun t41 =>
    aAppend 54 4 48 s5 t41 σ_4 (subK fun t42 σ_5 =>
    Do (aBin Go.Proofs.Try.prog .add 3 s6 (.val (.int .i64 1))) fun t18 =>
    go [s0, s1, t42, t18] σ_5))
      (Q (.ret s5) σ))
    [a0, a1, (.val (.slice none 0 0)), (.val (.int .i64 0))] σ
theorem law12_few.eq (a0 a1 : AV) (σ : Store) (Q : AEnd → Store → Prop) : vc (semOf Go.Proofs.Try.prog law12_few.mark) Go.Proofs.Try.f11.ntmps law12_few.ann (bodyOf Go.Proofs.Try.f11) (endK [.tmp 4] Q) (argFr [a0, a1]) σ = law12_few.sh a0 a1 σ Q := by kernel_rfl
theorem law12_few.go {a0 a1 : AV} {σ : Store} {Q : AEnd → Store → Prop} (h : law12_few.sh a0 a1 σ Q) : ACalls Go.Proofs.Try.prog 11 [a0, a1] σ Q :=
  acalls_of_eq [.tmp 4] Go.Proofs.Try.func11 (by kernel_rfl) (by kernel_rfl) (by kernel_rfl) (by kernel_rfl) (law12_few.eq a0 a1 σ Q) h
def law12_fit.mark : Mark := ⟨fun t => Nat.beq t 7 || Nat.beq t 8 || Nat.beq t 24, fun t => false, fun t => false, fun t => Nat.beq t 23 || Nat.beq t 29, fun t => false⟩
def law12_fit.ann : Ann := ⟨fun n => bif Nat.beq n 4 then [3, 4, 5] else [], fun n => none, fun n => none⟩
theorem few12_ok (l : List En) (m : SM) (k : Nat) (hl : l.length ≤ 100000000000000) (hk : k ≤ 1000) : aPure Go.Proofs.Try.prog 11 [.lst 4 (l.map En.av) m, I .i64 (k : Nat)] (.lst 4 (((l.take k).map (cutE 130 1030)).map En.av) .ro) := by
  refine ACalls.fin (law12_few.go ?_)
  unfold law12_few.sh
  repeat' (first | with_reducible apply Stp.go | with_reducible refine imp fun _ => ?_ | (with_reducible refine hyp ?_ ?_; first | assumption | exact leftT_mem (by assumption)) | (with_reducible refine need ?_ ?_; first | trivial | omega | exact ⟨by assumption, by omega⟩ | (simp only [List.length_append, List.length_cons, List.length_nil, List.length_map, List.length_take, List.length_drop, List.length_replicate, List.length_set]; omega)) | (with_reducible refine fact ?_ ?_; first | trivial | exact ⟨rfl, rfl⟩ | kernel_rfl) | with_reducible refine choT (by assumption) ?_ | with_reducible refine choF (by assumption) ?_ | with_reducible refine choF' (by assumption) ?_ | (with_reducible refine altT ?_ ?_; first | omega | (simp only [List.length_append, List.length_cons, List.length_nil, List.length_map, List.length_take, List.length_drop, List.length_replicate, List.length_set]; omega)) | with_reducible refine altF ?_ | with_reducible refine all fun _ => ?_ | with_reducible refine both ?_ ?_ | (with_reducible refine choT ?_ ?_; omega) | (with_reducible refine choF ?_ ?_; omega) | with_reducible refine cho (fun _ => ?_) (fun _ => ?_))
  refine loopI (β := Nat × Value) (fun x => x.1 ≤ l.length ∧ x.1 ≤ k) (fun x => [.lst 4 (l.map En.av) m, I .i64 (k : Nat), .own x.2 x.1, I .i64 (x.1 : Nat)]) (fun x => [.row x.2 54 4 (((l.take x.1).map (cutE 130 1030)).map En.av) 0]) (fun x => k - x.1) (0, _) ⟨Nat.zero_le _, Nat.zero_le _⟩ (Sub.nil_own 54 (by decide) _ [_, _] [_]) ?_
  rintro ⟨i, v⟩ ⟨h1, h2⟩
  dsimp only at h1 h2 ⊢
  repeat' (first | with_reducible apply Stp.go | with_reducible refine imp fun _ => ?_ | (with_reducible refine hyp ?_ ?_; first | assumption | exact leftT_mem (by assumption)) | (with_reducible refine need ?_ ?_; first | trivial | omega | exact ⟨by assumption, by omega⟩ | (simp only [List.length_append, List.length_cons, List.length_nil, List.length_map, List.length_take, List.length_drop, List.length_replicate, List.length_set]; omega)) | (with_reducible refine fact ?_ ?_; first | trivial | exact ⟨rfl, rfl⟩ | kernel_rfl) | with_reducible refine choT (by assumption) ?_ | with_reducible refine choF (by assumption) ?_ | with_reducible refine choF' (by assumption) ?_ | (with_reducible refine altT ?_ ?_; first | omega | (simp only [List.length_append, List.length_cons, List.length_nil, List.length_map, List.length_take, List.length_drop, List.length_replicate, List.length_set]; omega)) | with_reducible refine altF ?_ | with_reducible refine all fun _ => ?_ | with_reducible refine both ?_ ?_ | (with_reducible refine choT ?_ ?_; omega) | (with_reducible refine choF ?_ ?_; omega) | with_reducible refine cho (fun _ => ?_) (fun _ => ?_))
  · rename_i w
    refine again (i + 1, w) (by dsimp only; omega) ⟨by dsimp only; omega, by dsimp only; omega⟩ ?_
    have e : (l.take (i + 1)).map (cutE 130 1030) = (l.take i).map (cutE 130 1030) ++ [cutE 130 1030 (l.getD i default)] := by rw [take_succ_d (by omega), List.map_append]; rfl
    have en : ((l.take i).map (cutE 130 1030)).length = i := by simp; omega
    dsimp only
    rw [e, List.length_append, en, take_minN, take_minN]
    exact Sub.drop_ (List.sublist_cons_self _ _) _
  · have e : i = min l.length k := by omega
    refine ⟨_, _, _, rfl, retOwn (Sub.refl _ _), ?_, rfl⟩
    rw [e, take_minN]
  · have e : i = min l.length k := by omega
    refine ⟨_, _, _, rfl, retOwn (Sub.refl _ _), ?_, rfl⟩
    rw [e, take_minN]
end Go.Ab

/- Layer 12: what is shown in any case; SeekOther. -/
set_option linter.unusedVariables false
set_option linter.unusedSimpArgs false
namespace Go.Ab
def law12_shown.mark : Mark := ⟨fun t => Nat.beq t 21 || Nat.beq t 27 || Nat.beq t 33 || Nat.beq t 39 || Nat.beq t 46, fun t => false, fun t => false, fun t => false, fun t => false⟩
def law12_shown.ann : Ann := ⟨fun n => [], fun n => none, fun n => none⟩
/-- 'marlstone/marlstonelaw12.shown' -/
def law12_shown.sh (σ : Store) (Q : AEnd → Store → Prop) : Prop :=
  Do (aLit [.val (.int .i64 0)] [(0, 1)] [(0, (.val (.int .i64 256)))]) fun t14 =>
  aNewVar 26 [.val (.int .i64 0)] σ fun t1 σ =>
  storeA 1 t1 t14 σ fun u σ_1 =>
  Do (aLit [.val (.string ⟨#[]⟩), .val (.string ⟨#[]⟩), .val (.bool false), .val (.int .i64 0)] [(0, 1), (1, 1), (2, 1), (3, 1)] [(0, (.val (.string ⟨#[97]⟩))), (3, (.val (.int .i64 1)))]) fun t15 =>
  Do (aLit [.val (.string ⟨#[]⟩), .val (.string ⟨#[]⟩), .val (.bool false), .val (.int .i64 0)] [(0, 1), (1, 1), (2, 1), (3, 1)] [(0, (.val (.string ⟨#[99]⟩))), (3, (.val (.int .i64 2)))]) fun t16 =>
  Do (aSlLit (mkE [.val (.string ⟨#[]⟩), .val (.string ⟨#[]⟩), .val (.bool false), .val (.int .i64 0)]) 4 2 [(0, t15), (1, t16)]) fun t17 =>
  Do (loadA true 1 t1 σ_1) fun t19 =>
  Do (aPureC Go.Proofs.Try.prog 12 [t19, t17, (.val (.string ⟨#[98]⟩))]) fun t21 =>
  Do (aExt t21 0) fun t22 =>
  Do (aExt t21 1) fun t23 =>
  aNewVar 32 [.val (.bool false), .val (.int .i64 0), .val (.slice none 0 0), .val (.slice none 0 0), .val (.int .i64 0), .val (.slice none 0 0), .val (.slice none 0 0)] σ_1 fun t3 σ_2 =>
  storeA 7 t3 t22 σ_2 fun u_1 σ_3 =>
  Do (loadA true 1 t1 σ_3) fun t25 =>
  Do (aPureC Go.Proofs.Try.prog 12 [t25, t17, (.val (.string ⟨#[99]⟩))]) fun t27 =>
  Do (aExt t27 0) fun t28 =>
  Do (aExt t27 1) fun t29 =>
  aNewVar 32 [.val (.bool false), .val (.int .i64 0), .val (.slice none 0 0), .val (.slice none 0 0), .val (.int .i64 0), .val (.slice none 0 0), .val (.slice none 0 0)] σ_3 fun t5 σ_4 =>
  storeA 7 t5 t28 σ_4 fun u_2 σ_5 =>
  Do (loadA true 1 t1 σ_5) fun t31 =>
  Do (aPureC Go.Proofs.Try.prog 12 [t31, t17, (.val (.string ⟨#[100]⟩))]) fun t33 =>
  Do (aExt t33 0) fun t34 =>
  Do (aExt t33 1) fun t35 =>
  aNewVar 32 [.val (.bool false), .val (.int .i64 0), .val (.slice none 0 0), .val (.slice none 0 0), .val (.int .i64 0), .val (.slice none 0 0), .val (.slice none 0 0)] σ_5 fun t7 σ_6 =>
  storeA 7 t7 t34 σ_6 fun u_3 σ_7 =>
  Do (loadA true 1 t1 σ_7) fun t37 =>
  Do (aPureC Go.Proofs.Try.prog 30 [t37, (.val (.int .i64 0)), t17]) fun t39 =>
  Do (aExt t39 0) fun t40 =>
  Do (aExt t39 1) fun t41 =>
  aNewVar 48 [.val (.int .i64 0), .val (.int .i64 0), .val (.int .u8 0), .val (.int .u8 0), .val (.int .u8 0), .val (.int .u8 0), .val (.int .u8 0), .val (.int .u8 0), .val (.int .u8 0), .val (.int .u8 0), .val (.int .u8 0), .val (.int .u8 0), .val (.int .u8 0), .val (.int .u8 0), .val (.int .u8 0), .val (.int .u8 0), .val (.int .u8 0), .val (.int .u8 0), .val (.int .u8 0), .val (.int .u8 0), .val (.int .u8 0), .val (.int .u8 0), .val (.int .u8 0), .val (.int .u8 0), .val (.int .u8 0), .val (.int .u8 0), .val (.int .u8 0), .val (.int .u8 0), .val (.int .u8 0), .val (.int .u8 0), .val (.int .u8 0), .val (.int .u8 0), .val (.int .u8 0), .val (.int .u8 0), .val (.string ⟨#[]⟩), .val (.string ⟨#[]⟩)] σ_7 fun t9 σ_8 =>
  storeA 36 t9 t40 σ_8 fun u_4 σ_9 =>
  Do (loadA true 1 t1 σ_9) fun t43 =>
  Do (loadA true 36 t9 σ_9) fun t44 =>
  Do (loadA true 7 t5 σ_9) fun t45 =>
  Do (aPureC Go.Proofs.Try.prog 23 [t43, t44, (.val (.string ⟨#[99]⟩)), t45]) fun t46 =>
  Do (aExt t46 0) fun t47 =>
  Do (aExt t46 1) fun t48 =>
  Do (aExt t46 2) fun t49 =>
  aNewVar 54 [.val (.string ⟨#[]⟩), .val (.string ⟨#[]⟩), .val (.bool false), .val (.int .i64 0)] σ_9 fun t11 σ_10 =>
  storeA 4 t11 t47 σ_10 fun u_5 σ_11 =>
  Do (aFieldAddr 0 1 t3) fun t50 =>
  Do (loadA false 1 t50 σ_11) fun t51 =>
  Do (aGuard t51 true (aFieldAddr 1 3 t3)) fun t53 =>
  Do (aGuard t51 true (aFieldAddr 0 1 t53)) fun t54 =>
  Do (aGuard t51 true (loadA false 1 t54 σ_11)) fun t55 =>
  Do (aGuard t51 true (aBin Go.Proofs.Try.prog .eql 3 t55 (.val (.int .i64 0)))) fun t56 =>
  Do (aPick t51 t56 (.val (.bool false))) fun t57 =>
  Do (aGuard t57 true (aFieldAddr 4 3 t3)) fun t59 =>
  Do (aGuard t57 true (aFieldAddr 0 1 t59)) fun t60 =>
  Do (aGuard t57 true (loadA false 1 t60 σ_11)) fun t61 =>
  Do (aGuard t57 true (aBin Go.Proofs.Try.prog .eql 3 t61 (.val (.int .i64 1)))) fun t62 =>
  Do (aPick t57 t62 (.val (.bool false))) fun t63 =>
  Do (aGuard t63 true (aIs t23)) fun t65 =>
  Do (aGuard t63 true (aBin Go.Proofs.Try.prog .eql 33 t65 (.val (.int .i64 0)))) fun t66 =>
  Do (aPick t63 t66 (.val (.bool false))) fun t67 =>
  Do (aGuard t67 true (aFieldAddr 0 1 t5)) fun t69 =>
  Do (aGuard t67 true (loadA false 1 t69 σ_11)) fun t70 =>
  Do (aGuard t67 true (aUn Go.Proofs.Try.prog .not t70)) fun t71 =>
  Do (aPick t67 t71 (.val (.bool false))) fun t72 =>
  Do (aGuard t72 true (aFieldAddr 1 3 t5)) fun t74 =>
  Do (aGuard t72 true (aFieldAddr 0 1 t74)) fun t75 =>
  Do (aGuard t72 true (loadA false 1 t75 σ_11)) fun t76 =>
  Do (aGuard t72 true (aBin Go.Proofs.Try.prog .eql 3 t76 (.val (.int .i64 1)))) fun t77 =>
  Do (aPick t72 t77 (.val (.bool false))) fun t78 =>
  Do (aGuard t78 true (aIs t29)) fun t80 =>
  Do (aGuard t78 true (aBin Go.Proofs.Try.prog .eql 33 t80 (.val (.int .i64 0)))) fun t81 =>
  Do (aPick t78 t81 (.val (.bool false))) fun t82 =>
  Do (aGuard t82 true (aIs t35)) fun t84 =>
  Do (aGuard t82 true (aBin Go.Proofs.Try.prog .eql 33 t84 (.val (.int .i64 5)))) fun t85 =>
  Do (aPick t82 t85 (.val (.bool false))) fun t86 =>
  Do (aGuard t86 true (aIs t48)) fun t88 =>
  Do (aPick t86 t88 (.val (.bool false))) fun t89 =>
  Do (aGuard t89 true (aFieldAddr 3 1 t11)) fun t91 =>
  Do (aGuard t89 true (loadA false 1 t91 σ_11)) fun t92 =>
  Do (aGuard t89 true (aBin Go.Proofs.Try.prog .eql 3 t92 (.val (.int .i64 2)))) fun t93 =>
  Do (aPick t89 t93 (.val (.bool false))) fun t94 =>
  Do (aGuard t94 true (aIs t49)) fun t96 =>
  Do (aGuard t94 true (aBin Go.Proofs.Try.prog .eql 33 t96 (.val (.int .i64 0)))) fun t97 =>
  Do (aPick t94 t97 (.val (.bool false))) fun t98 =>
  Q (.ret t98) σ_11
theorem law12_shown.eq (σ : Store) (Q : AEnd → Store → Prop) : vc (semOf Go.Proofs.Try.prog law12_shown.mark) Go.Proofs.Try.f10.ntmps law12_shown.ann (bodyOf Go.Proofs.Try.f10) (endK [.tmp 0] Q) (argFr []) σ = law12_shown.sh  σ Q := by kernel_rfl
theorem law12_shown.go {σ : Store} {Q : AEnd → Store → Prop} (h : law12_shown.sh  σ Q) : ACalls Go.Proofs.Try.prog 10 [] σ Q :=
  acalls_of_eq [.tmp 0] Go.Proofs.Try.func10 (by kernel_rfl) (by kernel_rfl) (by kernel_rfl) (by kernel_rfl) (law12_shown.eq  σ Q) h
def law12_SeekOther.mark : Mark := ⟨fun t => Nat.beq t 22 || Nat.beq t 24 || Nat.beq t 30 || Nat.beq t 37 || Nat.beq t 49 || Nat.beq t 56 || Nat.beq t 62 || Nat.beq t 70, fun t => false, fun t => false, fun t => false, fun t => false⟩
def law12_SeekOther.ann : Ann := ⟨fun n => [], fun n => none, fun n => none⟩
theorem len_enB (l : List En) (i : Nat) : ((l.map enB).getD i default).length ≤ 100000000000000 := by
  by_cases h : i < l.length
  · rw [getD_mapd enB h]
    have := enB_length (l.getD i default)
    omega
  · rw [List.getD_eq_getElem?_getD, List.getElem?_eq_none (by simpa using Nat.le_of_not_lt h)]
    exact Nat.zero_le _
theorem len_opn (b : Int) (l : List En) (i : Nat) : (opnAt b (l.map enB) i).2.1.length ≤ 100000000000000 := len_enB l i
theorem len_opn0 : opn0.2.1.length ≤ 100000000000000 := Nat.zero_le _
/-- A point of a key there is. -/
theorem seekC_is (b : Int) {l : List En} (hf : fit l = true) (k o : List UInt8) (hk : hasK l k = true) (ho : coversB (l.getD 0 default).key (l.getD (l.length - 1) default).key o = true) :
    seekC b (rootF b (l.map enB)) (l.length : Nat) (l.getD 0 default).key (l.getD (l.length - 1) default).key o false (opnAt b (l.map enB) (placeN l k)) opn0 = if k = o then (0, true, l.getD (placeN l k) default) else (8, false, En.zero) := by
  obtain ⟨_, h0, hs, hr⟩ := fit_right hf
  have hri := (sorted_iff l).1 hs
  obtain ⟨g1, g2⟩ := place_lt hri hk
  obtain ⟨g3, g4⟩ := holds_real b hr g1
  unfold seekC opnAt opn0
  dsimp only
  rw [if_pos ⟨g3, ho⟩, if_neg (by decide), g4, g2]
  by_cases h : k = o
  · rw [if_pos ⟨h, rfl, rfl, rfl⟩, if_pos h]
  · rw [if_neg (fun c => h c.1), if_neg h]
section told
variable {a : AV} {m : SM} {b : Int} {l : List En} {x : Int} {lev : Nat} {k o lo hi : List UInt8}
theorem fit_len (hf : fit l = true) : l.length ≤ 64 := (fit_right hf).1
/-- A table of what is fit. -/
theorem desc_fit [h : IsL a En.av 4 l m] (hx : x = (lev : Nat)) (hf : fit l = true) (hv : lev < 4) : PC Go.Proofs.Try.prog 30 [trA b, .val (.int .i64 x), a] True (.tuple [tabA x (l.length : Nat) (rootD b (l.map enB)) (l.getD 0 default).key (l.getD (l.length - 1) default).key, .val (.int .i64 0)]) := ⟨fun _ => by
  subst hx
  have h64 := fit_len hf
  have hd : dFit lev l = true := by unfold dFit; rw [hf, decide_eq_true hv]; rfl
  have := (inferInstance : PC Go.Proofs.Try.prog 30 [trA b, .val (.int .i64 ((lev : Nat) : Int)), a] _ _).ct ⟨by omega, by omega⟩
  unfold dLev dCnt dRoot dFst dLst dErr at this
  simp only [if_pos hd] at this
  exact this⟩
theorem prove_by [h : IsL a En.av 4 l m] {e : Nat} {bt : Bool} {X Y : Opn} (hl : l.length ≤ 1000000) (hp : proveP b l k = (e, bt, X, Y)) : PC Go.Proofs.Try.prog 12 [trA b, a, S k] True (.tuple [ptA bt X Y, I .i64 (e : Nat)]) := ⟨fun _ => by
  have := (inferInstance : PC Go.Proofs.Try.prog 12 [trA b, a, S k] _ _).ct hl
  rw [hp] at this
  exact this⟩
theorem check_by {d f g : List UInt8} [hd : Len32 d] {lv cnt : Int} {bt i : Bool} {X Y : Opn} {e : Nat} {y : En} (hc : cnt ≤ 9223372036854775807) (h1 : X.2.1.length ≤ 100000000000000) (h2 : Y.2.1.length ≤ 100000000000000) (hp : seekC b ⟨d, hd.len⟩ cnt f g k bt X Y = (e, i, y)) : PC Go.Proofs.Try.prog 23 [trA b, tabA lv cnt d f g, S k, ptA bt X Y] True (.tuple [y.av, B i, I .i64 (e : Nat)]) := ⟨fun _ => by
  have := (inferInstance : PC Go.Proofs.Try.prog 23 [trA b, tabA lv cnt d f g, S k, ptA bt X Y] _ _).ct ⟨hc, h1, h2⟩
  rw [hp] at this
  exact this⟩
theorem prove_is (hf : fit l = true) (hk : hasK l k = true) : proveP b l k = (0, false, opnAt b (l.map enB) (placeN l k), opn0) := by rw [proveP, if_pos hf, if_pos hk]
theorem prove_none (hf : fit l = true) (hk : hasK l k = false) (h : placeN l k = 0 ∨ placeN l k = l.length) : proveP b l k = (5, false, opn0, opn0) := by rw [proveP, if_pos hf, if_neg (by rw [hk]; decide), if_pos h]
theorem prove_gap (hf : fit l = true) (hk : hasK l k = false) (h : ¬ (placeN l k = 0 ∨ placeN l k = l.length)) : proveP b l k = (0, true, opnAt b (l.map enB) (placeN l k - 1), opnAt b (l.map enB) (placeN l k)) := by rw [proveP, if_pos hf, if_neg (by rw [hk]; decide), if_neg h]
end told
theorem shown12_ok : aPure Go.Proofs.Try.prog 10 [] (B true) := by
  refine ACalls.fin (law12_shown.go ?_)
  unfold law12_shown.sh
  have hf : fit [⟨[97], [], false, 1⟩, ⟨[99], [], false, 2⟩] = true := by decide
  have iD : ∀ {a : AV} {m : SM} [h : IsL a En.av 4 [⟨[97], [], false, 1⟩, ⟨[99], [], false, 2⟩] m], PC Go.Proofs.Try.prog 30 [trA 256, .val (.int .i64 0), a] True _ := desc_fit (b := 256) (lev := 0) rfl hf (by decide)
  have p1 := prove_gap (b := 256) (k := [98]) hf (by decide) (by decide)
  have p2 := prove_is (b := 256) (k := [99]) hf (by decide)
  have p3 := seekC_is 256 hf [99] [99] (by decide) (by decide)
  rw [show placeN [⟨[97], [], false, 1⟩, ⟨[99], [], false, 2⟩] [98] = 1 by decide] at p1
  rw [show placeN [⟨[97], [], false, 1⟩, ⟨[99], [], false, 2⟩] [99] = 1 by decide] at p2 p3
  rw [if_pos rfl, show ([⟨[97], [], false, 1⟩, ⟨[99], [], false, 2⟩] : List En).getD 1 default = ⟨[99], [], false, 2⟩ from rfl] at p3
  obtain ⟨X0, hX0⟩ : ∃ X, X = opnAt 256 ([⟨[97], [], false, 1⟩, ⟨[99], [], false, 2⟩].map enB) 0 := ⟨_, rfl⟩
  obtain ⟨X1, hX1⟩ : ∃ X, X = opnAt 256 ([⟨[97], [], false, 1⟩, ⟨[99], [], false, 2⟩].map enB) 1 := ⟨_, rfl⟩
  have l1 : X1.2.1.length ≤ 100000000000000 := by rw [hX1]; exact len_opn _ _ _
  have a0 : X0.1 = 0 := by rw [hX0]; rfl
  have a1 : X1.1 = 1 := by rw [hX1]; rfl
  rw [show (1 : Nat) - 1 = 0 from rfl, ← hX0, ← hX1] at p1
  rw [← hX1] at p2 p3
  have i1 : ∀ {a : AV} {m : SM} [h : IsL a En.av 4 [⟨[97], [], false, 1⟩, ⟨[99], [], false, 2⟩] m], PC Go.Proofs.Try.prog 12 [trA 256, a, S [98]] True _ := prove_by (b := 256) (by decide) p1
  have i2 : ∀ {a : AV} {m : SM} [h : IsL a En.av 4 [⟨[97], [], false, 1⟩, ⟨[99], [], false, 2⟩] m], PC Go.Proofs.Try.prog 12 [trA 256, a, S [99]] True _ := prove_by (b := 256) (by decide) p2
  have i3 : ∀ {a : AV} {m : SM} [h : IsL a En.av 4 [⟨[97], [], false, 1⟩, ⟨[99], [], false, 2⟩] m], PC Go.Proofs.Try.prog 12 [trA 256, a, S [100]] True _ := prove_by (b := 256) (by decide) (prove_none hf (by decide) (by decide))
  have iC := check_by (lv := 0) (b := 256) (h1 := l1) (h2 := len_opn0) (by decide) p3
  repeat' (first | with_reducible apply Stp.go | with_reducible refine imp fun _ => ?_ | (with_reducible refine hyp ?_ ?_; first | assumption | exact leftT_mem (by assumption)) | (with_reducible refine need ?_ ?_; first | trivial | omega | exact ⟨by assumption, by omega⟩ | (simp only [List.length_append, List.length_cons, List.length_nil, List.length_map, List.length_take, List.length_drop, List.length_replicate, List.length_set]; omega)) | (with_reducible refine fact ?_ ?_; first | trivial | exact ⟨rfl, rfl⟩ | kernel_rfl) | with_reducible refine choT (by assumption) ?_ | with_reducible refine choF (by assumption) ?_ | with_reducible refine choF' (by assumption) ?_ | (with_reducible refine altT ?_ ?_; first | omega | (simp only [List.length_append, List.length_cons, List.length_nil, List.length_map, List.length_take, List.length_drop, List.length_replicate, List.length_set]; omega)) | with_reducible refine altF ?_ | with_reducible refine all fun _ => ?_ | with_reducible refine both ?_ ?_ | (with_reducible refine choT ?_ ?_; omega) | (with_reducible refine choF ?_ ?_; omega) | with_reducible refine cho (fun _ => ?_) (fun _ => ?_))
  all_goals first
    | exact ⟨_, _, _, rfl, Sub.app_nil _, rfl, rfl⟩
    | contradiction
instance : PC Go.Proofs.Try.prog 10 [] True (B true) := ⟨fun _ => PC.of shown12_ok⟩
end Go.Ab

/- Layer 12: SeekProves. -/
set_option linter.unusedVariables false
set_option linter.unusedSimpArgs false
namespace Go.Ab
theorem proveP_len (b : Int) (l : List En) (k : List UInt8) : (proveP b l k).2.2.1.2.2.length ≤ l.length ∧ (proveP b l k).2.2.2.2.2.length ≤ l.length := by
  have h := fun i => pathD_le b _ (l.map enB) i rfl
  simp only [List.length_map] at h
  unfold proveP
  split
  · split
    · exact ⟨h _, Nat.zero_le _⟩
    · split
      · exact ⟨Nat.zero_le _, Nat.zero_le _⟩
      · exact ⟨h _, h _⟩
  · exact ⟨Nat.zero_le _, Nat.zero_le _⟩
theorem spanP_len (b : Int) (l : List En) (lo hi : List UInt8) : (spanP b l lo hi).2.2.1.length ≤ l.length ∧ (spanP b l lo hi).2.2.2.length ≤ l.length := by
  unfold spanP
  split
  · rename_i hf
    have h0 := (fit_right hf).2.1
    split
    · refine ⟨by simp only [List.length_drop, List.length_take, List.length_map]; omega, ?_⟩
      have h := bsD_le b _ (l.map enB) (spFrom l lo) (spTo l hi) rfl (by simpa using h0)
      simpa using h
    · exact ⟨Nat.zero_le _, Nat.zero_le _⟩
  · exact ⟨Nat.zero_le _, Nat.zero_le _⟩
def law12_SeekProves.mark : Mark := ⟨fun t => Nat.beq t 22 || Nat.beq t 24 || Nat.beq t 31 || Nat.beq t 38 || Nat.beq t 46 || Nat.beq t 54 || Nat.beq t 59 || Nat.beq t 62 || Nat.beq t 84 || Nat.beq t 87 || Nat.beq t 94 || Nat.beq t 98, fun t => false, fun t => false, fun t => false, fun t => false⟩
def law12_SeekProves.ann : Ann := ⟨fun n => [], fun n => none, fun n => none⟩
/-- 'marlstone/marlstonelaw12.SeekProves' -/
def law12_SeekProves.sh (a0 a1 a2 a3 : AV) (σ : Store) (Q : AEnd → Store → Prop) : Prop :=
  Do (aPureC Go.Proofs.Try.prog 10 []) fun t22 =>
  Do (aPureC Go.Proofs.Try.prog 11 [a0, (.val (.int .i64 70))]) fun t24 =>
  Do (aLit [.val (.int .i64 0)] [(0, 1)] [(0, a1)]) fun t26 =>
  aNewVar 26 [.val (.int .i64 0)] σ fun t10 σ =>
  storeA 1 t10 t26 σ fun u σ_1 =>
  Do (loadA true 1 t10 σ_1) fun t28 =>
  Do (aPureC Go.Proofs.Try.prog 12 [t28, t24, a2]) fun t31 =>
  Do (aExt t31 0) fun t32 =>
  Do (aExt t31 1) fun t33 =>
  aNewVar 32 [.val (.bool false), .val (.int .i64 0), .val (.slice none 0 0), .val (.slice none 0 0), .val (.int .i64 0), .val (.slice none 0 0), .val (.slice none 0 0)] σ_1 fun t11 σ_2 =>
  storeA 7 t11 t32 σ_2 fun u_1 σ_3 =>
  Do (aPureC Go.Proofs.Try.prog 13 [a1, t24, a2]) fun t38 =>
  Do (aExt t38 0) fun t39 =>
  Do (aExt t38 1) fun t40 =>
  aNewVar 32 [.val (.bool false), .val (.int .i64 0), .val (.slice none 0 0), .val (.slice none 0 0), .val (.int .i64 0), .val (.slice none 0 0), .val (.slice none 0 0)] σ_3 fun t13 σ_4 =>
  storeA 7 t13 t39 σ_4 fun u_2 σ_5 =>
  Do (loadA true 1 t10 σ_5) fun t42 =>
  Do (aPureC Go.Proofs.Try.prog 14 [t42, t24, a2, a3]) fun t46 =>
  Do (aExt t46 0) fun t47 =>
  Do (aExt t46 1) fun t48 =>
  aNewVar 39 [.val (.int .i64 0), .val (.slice none 0 0), .val (.slice none 0 0)] σ_5 fun t15 σ_6 =>
  storeA 3 t15 t47 σ_6 fun u_3 σ_7 =>
  Do (aPureC Go.Proofs.Try.prog 15 [a1, t24, a2, a3]) fun t54 =>
  Do (aExt t54 0) fun t55 =>
  Do (aExt t54 1) fun t56 =>
  aNewVar 39 [.val (.int .i64 0), .val (.slice none 0 0), .val (.slice none 0 0)] σ_7 fun t17 σ_8 =>
  storeA 3 t17 t55 σ_8 fun u_4 σ_9 =>
  Do (loadA true 7 t11 σ_9) fun t57 =>
  Do (loadA true 7 t13 σ_9) fun t58 =>
  Do (aPureC Go.Proofs.Try.prog 16 [t57, t58]) fun t59 =>
  Do (loadA true 3 t15 σ_9) fun t60 =>
  Do (loadA true 3 t17 σ_9) fun t61 =>
  Do (aPureC Go.Proofs.Try.prog 17 [t60, t61]) fun t62 =>
  Do (aLit [.val (.int .i64 0), .val (.int .i64 0), .val (.int .u8 0), .val (.int .u8 0), .val (.int .u8 0), .val (.int .u8 0), .val (.int .u8 0), .val (.int .u8 0), .val (.int .u8 0), .val (.int .u8 0), .val (.int .u8 0), .val (.int .u8 0), .val (.int .u8 0), .val (.int .u8 0), .val (.int .u8 0), .val (.int .u8 0), .val (.int .u8 0), .val (.int .u8 0), .val (.int .u8 0), .val (.int .u8 0), .val (.int .u8 0), .val (.int .u8 0), .val (.int .u8 0), .val (.int .u8 0), .val (.int .u8 0), .val (.int .u8 0), .val (.int .u8 0), .val (.int .u8 0), .val (.int .u8 0), .val (.int .u8 0), .val (.int .u8 0), .val (.int .u8 0), .val (.int .u8 0), .val (.int .u8 0), .val (.string ⟨#[]⟩), .val (.string ⟨#[]⟩)] [(0, 1), (1, 1), (2, 32), (34, 1), (35, 1)] [(3, (.val (.string ⟨#[98]⟩))), (4, (.val (.string ⟨#[107]⟩)))]) fun t63 =>
  aNewVar 48 [.val (.int .i64 0), .val (.int .i64 0), .val (.int .u8 0), .val (.int .u8 0), .val (.int .u8 0), .val (.int .u8 0), .val (.int .u8 0), .val (.int .u8 0), .val (.int .u8 0), .val (.int .u8 0), .val (.int .u8 0), .val (.int .u8 0), .val (.int .u8 0), .val (.int .u8 0), .val (.int .u8 0), .val (.int .u8 0), .val (.int .u8 0), .val (.int .u8 0), .val (.int .u8 0), .val (.int .u8 0), .val (.int .u8 0), .val (.int .u8 0), .val (.int .u8 0), .val (.int .u8 0), .val (.int .u8 0), .val (.int .u8 0), .val (.int .u8 0), .val (.int .u8 0), .val (.int .u8 0), .val (.int .u8 0), .val (.int .u8 0), .val (.int .u8 0), .val (.int .u8 0), .val (.int .u8 0), .val (.string ⟨#[]⟩), .val (.string ⟨#[]⟩)] σ_9 fun t21 σ_10 =>
  storeA 36 t21 t63 σ_10 fun u_5 σ_11 =>
  Do (aGuard t22 true (aIs t59)) fun t66 =>
  Do (aPick t22 t66 (.val (.bool false))) fun t67 =>
  Do (aGuard t67 true (aIs t33)) fun t69 =>
  Do (aGuard t67 true (aIs t40)) fun t70 =>
  Do (aGuard t67 true (aBin Go.Proofs.Try.prog .eql 33 t69 t70)) fun t71 =>
  Do (aPick t67 t71 (.val (.bool false))) fun t72 =>
  Do (aGuard t72 true (aIs t62)) fun t74 =>
  Do (aPick t72 t74 (.val (.bool false))) fun t75 =>
  Do (aGuard t75 true (aIs t48)) fun t77 =>
  Do (aGuard t75 true (aIs t56)) fun t78 =>
  Do (aGuard t75 true (aBin Go.Proofs.Try.prog .eql 33 t77 t78)) fun t79 =>
  Do (aPick t75 t79 (.val (.bool false))) fun t80 =>
  Do (aGuard t80 true (loadA true 36 t21 σ_11)) fun t82 =>
  Do (aGuard t80 true (aIs a2)) fun t83 =>
  Do (aGuard t80 true (aPureC Go.Proofs.Try.prog 18 [t82, t83])) fun t84 =>
  Do (aGuard t80 true (loadA true 36 t21 σ_11)) fun t85 =>
  Do (aGuard t80 true (aIs a2)) fun t86 =>
  Do (aGuard t80 true (aPureC Go.Proofs.Try.prog 19 [t85, t86])) fun t87 =>
  Do (aGuard t80 true (aBin Go.Proofs.Try.prog .eql 4 t84 t87)) fun t88 =>
  Do (aPick t80 t88 (.val (.bool false))) fun t89 =>
  Do (aGuard t89 true (loadA true 36 t21 σ_11)) fun t91 =>
  Do (aGuard t89 true (aIs a2)) fun t92 =>
  Do (aGuard t89 true (aIs a3)) fun t93 =>
  Do (aGuard t89 true (aPureC Go.Proofs.Try.prog 20 [t91, t92, t93])) fun t94 =>
  Do (aGuard t89 true (loadA true 36 t21 σ_11)) fun t95 =>
  Do (aGuard t89 true (aIs a2)) fun t96 =>
  Do (aGuard t89 true (aIs a3)) fun t97 =>
  Do (aGuard t89 true (aPureC Go.Proofs.Try.prog 21 [t95, t96, t97])) fun t98 =>
  Do (aGuard t89 true (aBin Go.Proofs.Try.prog .eql 4 t94 t98)) fun t99 =>
  Do (aPick t89 t99 (.val (.bool false))) fun t100 =>
  Q (.ret t100) σ_11
theorem law12_SeekProves.eq (a0 a1 a2 a3 : AV) (σ : Store) (Q : AEnd → Store → Prop) : vc (semOf Go.Proofs.Try.prog law12_SeekProves.mark) Go.Proofs.Try.f3.ntmps law12_SeekProves.ann (bodyOf Go.Proofs.Try.f3) (endK [.tmp 8] Q) (argFr [a0, a1, a2, a3]) σ = law12_SeekProves.sh a0 a1 a2 a3 σ Q := by kernel_rfl
theorem law12_SeekProves.go {a0 a1 a2 a3 : AV} {σ : Store} {Q : AEnd → Store → Prop} (h : law12_SeekProves.sh a0 a1 a2 a3 σ Q) : ACalls Go.Proofs.Try.prog 3 [a0, a1, a2, a3] σ Q :=
  acalls_of_eq [.tmp 8] Go.Proofs.Try.func3 (by kernel_rfl) (by kernel_rfl) (by kernel_rfl) (by kernel_rfl) (law12_SeekProves.eq a0 a1 a2 a3 σ Q) h
theorem SeekProves_ok (l : List En) (m : SM) (b : Int) (k hi : List UInt8) (hl : l.length ≤ 100000000000000) (hb : (Lit.int .i64 b).wf = true) (hk : k.length ≤ 140737488355328) (ho : hi.length ≤ 140737488355328) : aPure Go.Proofs.Try.prog 3 [.lst 4 (l.map En.av) m, I .i64 b, S k, S hi] (B true) := by
  refine ACalls.fin (law12_SeekProves.go ?_)
  unfold law12_SeekProves.sh
  obtain ⟨L, hL⟩ : ∃ L, L = (l.take 70).map (cutE 130 1030) := ⟨_, rfl⟩
  have h70 : L.length ≤ 70 := by rw [hL]; simp; omega
  have iF : PC Go.Proofs.Try.prog 11 [.lst 4 (l.map En.av) m, .val (.int .i64 70)] True (.lst 4 (L.map En.av) .ro) := ⟨fun _ => by rw [hL]; exact PC.of (few12_ok l m 70 hl (by decide))⟩
  obtain ⟨p1, p2⟩ := proveP_len b L k
  obtain ⟨s1, s2⟩ := spanP_len b L k hi
  have q0 : (true : Bool) = true := rfl
  have q1 : (proveP b L k).1 = (proveP b L k).1 := rfl
  have q2 : (spanP b L k hi).1 = (spanP b L k hi).1 := rfl
  have q3 : coversB [98] [107] k = coversB [98] [107] k := rfl
  repeat' (first | with_reducible apply Stp.go | with_reducible refine imp fun _ => ?_ | (with_reducible refine hyp ?_ ?_; first | assumption | exact leftT_mem (by assumption)) | (with_reducible refine need ?_ ?_; first | trivial | omega | exact ⟨by assumption, by omega⟩ | (simp only [List.length_append, List.length_cons, List.length_nil, List.length_map, List.length_take, List.length_drop, List.length_replicate, List.length_set]; omega)) | (with_reducible refine fact ?_ ?_; first | trivial | exact ⟨rfl, rfl⟩ | kernel_rfl) | with_reducible refine choT (by assumption) ?_ | with_reducible refine choF (by assumption) ?_ | with_reducible refine choF' (by assumption) ?_ | (with_reducible refine altT ?_ ?_; first | omega | (simp only [List.length_append, List.length_cons, List.length_nil, List.length_map, List.length_take, List.length_drop, List.length_replicate, List.length_set]; omega)) | with_reducible refine altF ?_ | with_reducible refine all fun _ => ?_ | with_reducible refine both ?_ ?_ | (with_reducible refine choT ?_ ?_; omega) | (with_reducible refine choF ?_ ?_; omega) | with_reducible refine cho (fun _ => ?_) (fun _ => ?_))
  refine (stTab (lev := 0) (n := 0) (d := zeroD) (f := [98]) (g := [107])).go ?_
  repeat' (first | with_reducible apply Stp.go | with_reducible refine imp fun _ => ?_ | (with_reducible refine hyp ?_ ?_; first | assumption | exact leftT_mem (by assumption)) | (with_reducible refine need ?_ ?_; first | trivial | omega | exact ⟨by assumption, by omega⟩ | (simp only [List.length_append, List.length_cons, List.length_nil, List.length_map, List.length_take, List.length_drop, List.length_replicate, List.length_set]; omega)) | (with_reducible refine fact ?_ ?_; first | trivial | exact ⟨rfl, rfl⟩ | kernel_rfl) | with_reducible refine choT (by assumption) ?_ | with_reducible refine choF (by assumption) ?_ | with_reducible refine choF' (by assumption) ?_ | (with_reducible refine altT ?_ ?_; first | omega | (simp only [List.length_append, List.length_cons, List.length_nil, List.length_map, List.length_take, List.length_drop, List.length_replicate, List.length_set]; omega)) | with_reducible refine altF ?_ | with_reducible refine all fun _ => ?_ | with_reducible refine both ?_ ?_ | (with_reducible refine choT ?_ ?_; omega) | (with_reducible refine choF ?_ ?_; omega) | with_reducible refine cho (fun _ => ?_) (fun _ => ?_))
  all_goals first
    | contradiction
    | (refine ⟨_, _, _, rfl, Sub.app_nil _, ?_, rfl⟩
       rw [decide_eq_true rfl])
    | trace_state
end Go.Ab
