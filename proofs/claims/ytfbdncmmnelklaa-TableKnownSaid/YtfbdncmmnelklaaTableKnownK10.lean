/- The texts that this claim needs, part 10: a logic over abstract values, its steps, what the functions do. No condition of its own. -/
import Derived.ChangeKeysEq
import Derived.Test.YtfbdncmmnelklaaTableKnownK9
/- Arrays of bytes held against one another. -/
set_option linter.unusedVariables false
set_option linter.unusedSimpArgs false
namespace Go.Ab
abbrev bytv (b : UInt8) : Value := .int .u8 b.toNat
theorem run_items {P : Program} {e : TypeId} (he : P.underlying e = some (.int .u8)) (c c' : List UInt8) (d : Nat) (w : World) : ∀ is : List Nat, (∀ i ∈ is, i < c.length ∧ i < c'.length) →
    (Op.eqItems (d + 1) e 1 (c.map bytv).toArray (c'.map bytv).toArray is).run P w = .ok (is.all fun i => decide (c.getD i 0 = c'.getD i 0)) w
  | [], _ => by simp [Op.eqItems]
  | i :: is, h => by
    obtain ⟨h1, h2⟩ := h i List.mem_cons_self
    have ih := run_items he c c' d w is fun j hj => h j (List.mem_cons_of_mem _ hj)
    have p1 : (part e (c.map bytv).toArray (i * 1)).run P w = .ok (bytv (c.getD i 0)) w := part_plain he rfl (by simp [List.getD_eq_getElem?_getD, h1]) w
    have p2 : (part e (c'.map bytv).toArray (i * 1)).run P w = .ok (bytv (c'.getD i 0)) w := part_plain he rfl (by simp [List.getD_eq_getElem?_getD, h2]) w
    have p3 : (Op.equalIn (d + 1) e (bytv (c.getD i 0)) (bytv (c'.getD i 0))).run P w = .ok (decide (c.getD i 0 = c'.getD i 0)) w := by
      rw [run_equalIn_int w d e .u8 .u8 _ _ he]
      congr 1
      rw [Bool.eq_iff_iff, beq_iff_eq, decide_eq_true_eq]
      constructor
      · intro h; exact UInt8.toNat_inj.1 (Int.ofNat.inj h)
      · intro h; rw [h]
    simp only [Op.eqItems, Sem.run_bind, p1, p2, p3, Result.andThen_ok, List.all_cons]
    by_cases hh : c.getD i 0 = c'.getD i 0
    · rw [decide_eq_true hh]; simpa using ih
    · rw [decide_eq_false hh]; simp
theorem all_same {c c' : List UInt8} {n : Nat} (h : c.length = n) (h' : c'.length = n) : ((List.range n).all fun i => decide (c.getD i 0 = c'.getD i 0)) = decide (c = c') := by
  rw [Bool.eq_iff_iff, List.all_eq_true, decide_eq_true_eq]
  constructor
  · intro hh
    apply List.ext_getElem (by omega)
    intro i h1 h2
    have := hh i (List.mem_range.2 (by omega))
    simpa [List.getD_eq_getElem?_getD, h1, h2] using this
  · rintro rfl i _; simp
class ArrB (P : Program) (t : TypeId) (n : outParam Nat) : Prop where
  h : ∃ e, P.underlying t = some (.array n e) ∧ P.underlying e = some (.int .u8) ∧ (P.info? e).isSome = true ∧ P.cellsOf e = 1 ∧ P.eqGuardType P.depth t = false
theorem allVals_byt (c : List UInt8) : allVals (c.map byt) = some (c.map bytv) := by
  induction c with
  | nil => rfl
  | cons a c ih => simp [allVals, ih, byt]
theorem arr_plain (c : List UInt8) : plainV (.agg (c.map byt)) = some (.agg (c.map bytv).toArray) := by
  simp [plainV, allVals_byt]
section arr
variable {P : Program} {t : TypeId} {n : Nat} {c c' : List UInt8} {K : AV → Prop}
theorem run_arr [h : ArrB P t n] (h1 : c.length = n) (h2 : c'.length = n) (w : World) : (Op.equalIn 10000 t (.agg (c.map bytv).toArray) (.agg (c'.map bytv).toArray)).run P w = .ok (decide (c = c')) w := by
  obtain ⟨e, g1, g2, g3, g4, g5⟩ := h.h
  obtain ⟨i, g3⟩ := Option.isSome_iff_exists.1 g3
  show (Op.equalIn (9998 + 1 + 1) t _ _).run P w = _
  rw [run_equalIn_array w (9998 + 1) _ _ g1 g3, g4, run_items g2 c c' 9998 w _ (fun i hi => by have := List.mem_range.1 hi; omega), all_same h1 h2]
instance eqArr [h : ArrB P t n] : Stp (Do (aBin P .eql t (.agg (c.map byt)) (.agg (c'.map byt))) K) (Need (c.length = n ∧ c'.length = n) (K (.val (.bool (decide (c = c')))))) := ⟨fun ⟨⟨h1, h2⟩, hK⟩ => by
  refine ⟨_, (aBin_plain (arr_plain c) (arr_plain c') fun xo yo w => ?_).2 rfl, hK⟩
  obtain ⟨e, g1, g2, g3, g4, g5⟩ := h.h
  simp only [Sem.run_bind, run_eqGuard_agg w .eql t xo yo _ _ g5, Result.andThen_ok, run_eql_struct, run_arr (t := t) h1 h2 w, Result.andThen_ok]⟩
end arr
instance : ArrB Go.Proofs.Try.prog 32 32 := ⟨⟨5, by kernel_rfl, by kernel_rfl, by kernel_rfl, by kernel_rfl, by kernel_rfl⟩⟩
end Go.Ab

/- Reading numbers and texts. -/
set_option linter.unusedVariables false
set_option linter.unusedSimpArgs false
namespace Go.Ab
def codec_Get.mark : Mark := ⟨fun t => false, fun t => false, fun t => false, fun t => Nat.beq t 18, fun t => false⟩
def codec_Get.ann : Ann := ⟨fun n => bif Nat.beq n 3 then [5, 12, 13, 14] else [], fun n => none, fun n => none⟩
/-- 'marlstone/codec.Get' -/
def codec_Get.sh (a0 : AV) (σ : Store) (Q : AEnd → Store → Prop) : Prop :=
  Do (aBuiltin Go.Proofs.Try.prog .len #[25] [a0]) fun t10 =>
  Do (aBuiltin Go.Proofs.Try.prog .min #[3, 3] [t10, (.val (.int .i64 10))]) fun t11 =>
  Do (aSlice .slice 1 a0 none (some t11) none) fun t12 =>
  Do (aBuiltin Go.Proofs.Try.prog .len #[25] [t12]) fun t13 =>
  aLoop (fun go vs σ =>
    At vs 0 fun s5 => At vs 1 fun s12 => At vs 2 fun s13 => At vs 3 fun s14 => Do (aBin Go.Proofs.Try.prog .lss 3 s14 s13) fun t15 =>
    aCond t15
      (Do (aIndexAddr .slice 1 s12 s14) fun t17 =>
    Do (loadF false 1 t17) fun t18 =>
    Do (aBin Go.Proofs.Try.prog .eql 3 s14 (.val (.int .i64 9))) fun t20 =>
    Do (aGuard t20 true (aIs t18)) fun t22 =>
    Do (aGuard t20 true (aBin Go.Proofs.Try.prog .gtr 5 t22 (W8 1))) fun t23 =>
    Do (aPick t20 t23 (.val (.bool false))) fun t24 =>
    Do (aGuard t24 false (aIs s14)) fun t26 =>
    Do (aGuard t24 false (aBin Go.Proofs.Try.prog .gtr 3 t26 (.val (.int .i64 0)))) fun t27 =>
    Do (aGuard t24 false (aIs t27)) fun t28 =>
    Do (aGuard t28 true (aIs t18)) fun t29 =>
    Do (aGuard t28 true (aBin Go.Proofs.Try.prog .eql 5 t29 (W8 0))) fun t30 =>
    Do (aGuard t24 false (aPick t28 t30 (.val (.bool false)))) fun t31 =>
    Do (aPick t24 (.val (.bool true)) t31) fun t32 =>
    aCond t32
      (Q (.ret (.tuple [(W64 0), (.val (.int .i64 0)), (.val (.bool false))])) σ)
      (Do (aBin Go.Proofs.Try.prog .and 5 t18 (W8 127)) fun t35 =>
    Do (fun x => aConvN 5 71 t35 x Go.Proofs.Try.prog) fun t36 =>
    Do (aBin Go.Proofs.Try.prog .mul 3 (.val (.int .i64 7)) s14) fun t38 =>
    Do (aBin Go.Proofs.Try.prog .shl 71 t36 t38) fun t39 =>
    Do (aBin Go.Proofs.Try.prog .or 71 s5 t39) fun t40 =>
    Do (aBin Go.Proofs.Try.prog .lss 5 t18 (W8 128)) fun t42 =>
    aCond t42
      (Do (aBin Go.Proofs.Try.prog .add 3 s14 (.val (.int .i64 1))) fun t45 =>
      Q (.ret (.tuple [t40, t45, (.val (.bool true))])) σ)
      (Do (aBin Go.Proofs.Try.prog .add 3 s14 (.val (.int .i64 1))) fun t46 =>
    go [t40, s12, s13, t46] σ)))
      (Q (.ret (.tuple [(W64 0), (.val (.int .i64 0)), (.val (.bool false))])) σ))
    [(W64 0), t12, t13, (.val (.int .i64 0))] σ
theorem codec_Get.eq (a0 : AV) (σ : Store) (Q : AEnd → Store → Prop) : vc (semOf Go.Proofs.Try.prog codec_Get.mark) Go.Proofs.Try.f78.ntmps codec_Get.ann (bodyOf Go.Proofs.Try.f78) (endK [.tmp 2, .tmp 3, .tmp 4] Q) (argFr [a0]) σ = codec_Get.sh a0 σ Q := by kernel_rfl
theorem codec_Get.go {a0 : AV} {σ : Store} {Q : AEnd → Store → Prop} (h : codec_Get.sh a0 σ Q) : ACalls Go.Proofs.Try.prog 78 [a0] σ Q :=
  acalls_of_eq [.tmp 2, .tmp 3, .tmp 4] Go.Proofs.Try.func78 (by kernel_rfl) (by kernel_rfl) (by kernel_rfl) (by kernel_rfl) (codec_Get.eq a0 σ Q) h
def ref01_Get.mark : Mark := ⟨fun t => false, fun t => false, fun t => false, fun t => false, fun t => false⟩
def ref01_Get.ann : Ann := ⟨fun n => bif Nat.beq n 3 then [0, 5, 6] else [], fun n => none, fun n => none⟩
theorem getT (s : List UInt8) {i : Nat} (h : i < s.length) (v : Nat) : getA (s.drop i) i v = (if 10 ≤ i ∨ (i = 9 ∧ 1 < (s.getD i 0).toNat) ∨ (0 < i ∧ (s.getD i 0).toNat = 0) then none
    else if (s.getD i 0).toNat < 128 then some (v + (s.getD i 0).toNat % 128 * 128 ^ i, i + 1) else getA (s.drop (i + 1)) (i + 1) (v + (s.getD i 0).toNat % 128 * 128 ^ i)) := by
  have e := drop_cons_d h
  have e2 : s.getD i default = s.getD i 0 := rfl
  rw [e, e2, getA]
theorem g_fail {l : List UInt8} (h : getG l = none) : AEnd.ret (.tuple [W64 0, I .i64 0, B false]) = .ret (.tuple [W64 (UInt64.ofNat (getV l)), I .i64 (getN l : Nat), B (getO l)]) := by
  simp [getV, getN, getO, h]
theorem g_done {l : List UInt8} {x : UInt64} {n : Nat} (h : getG l = some (x.toNat, n)) : AEnd.ret (.tuple [W64 x, I .i64 (n : Nat), B true]) = .ret (.tuple [W64 (UInt64.ofNat (getV l)), I .i64 (getN l : Nat), B (getO l)]) := by
  simp [getV, getN, getO, h]
theorem and127 (c : UInt8) : (c &&& 127).toNat = c.toNat % 128 := by
  rw [UInt8.toNat_and]
  exact Nat.and_two_pow_sub_one_eq_mod c.toNat 7
theorem pow_step {v c i : Nat} (hv : v < 128 ^ i) (hc : c < 128) : v + c * 128 ^ i < 128 ^ (i + 1) := by
  have h1 : c * 128 ^ i ≤ 127 * 128 ^ i := Nat.mul_le_mul_right _ (by omega)
  rw [Nat.pow_succ]
  omega
theorem codec_Get_ok (l : List UInt8) (m : SM) (hl : l.length ≤ 1000000000000000) : aPure Go.Proofs.Try.prog 78 [.lst 1 (l.map byt) m] (.tuple [W64 (UInt64.ofNat (getV l)), I .i64 (getN l : Nat), B (getO l)]) := by
  refine codec_Get.go ?_
  unfold codec_Get.sh
  repeat' (first | with_reducible apply Stp.go | with_reducible refine imp fun _ => ?_ | (with_reducible refine hyp ?_ ?_; first | assumption | exact leftT_mem (by assumption)) | (with_reducible refine need ?_ ?_; first | trivial | omega | exact ⟨by assumption, by omega⟩ | (simp only [List.length_append, List.length_cons, List.length_nil, List.length_map, List.length_take, List.length_drop, List.length_replicate, List.length_set]; omega)) | (with_reducible refine fact ?_ ?_; first | trivial | exact ⟨rfl, rfl⟩ | kernel_rfl) | with_reducible refine choT (by assumption) ?_ | with_reducible refine choF (by assumption) ?_ | with_reducible refine choF' (by assumption) ?_ | (with_reducible refine altT ?_ ?_; first | omega | (simp only [List.length_append, List.length_cons, List.length_nil, List.length_map, List.length_take, List.length_drop, List.length_replicate, List.length_set]; omega)) | with_reducible refine altF ?_ | with_reducible refine all fun _ => ?_ | with_reducible refine both ?_ ?_ | (with_reducible refine choT ?_ ?_; omega) | (with_reducible refine choF ?_ ?_; omega) | with_reducible refine cho (fun _ => ?_) (fun _ => ?_))
  refine loopI (β := Nat × UInt64) (fun x => x.1 ≤ min l.length 10 ∧ x.2.toNat < 128 ^ x.1 ∧ getG l = getA (l.drop x.1) x.1 x.2.toNat) (fun x => [W64 x.2, .lst 1 ((l.take (min l.length 10)).map byt) .ro, I .i64 (min l.length 10 : Nat), I .i64 (x.1 : Nat)]) (fun _ => []) (fun x => min l.length 10 - x.1) (0, 0) ⟨Nat.zero_le _, by decide, rfl⟩ ?_ ?_
  · rw [List.length_take, Nat.min_eq_left (Nat.min_le_left _ _)]
    exact Sub.refl _ _
  rintro ⟨i, w⟩ ⟨hi, hw, hg⟩
  dsimp only at hi hw hg ⊢
  by_cases hlt : i < min l.length 10
  · rw [getT l (by omega)] at hg
    have ht : (l.take (min l.length 10)).getD i default = l.getD i 0 := by rw [List.getD_eq_getElem?_getD, List.getD_eq_getElem?_getD, List.getElem?_take, if_pos hlt]; rfl
    have hb := fun h9 => or_bits (c := (l.getD i 0).toNat % 128) (i := i) (w := w) (by omega) hw (Nat.mod_lt _ (by decide)) h9
    have hp := pow_step (c := (l.getD i 0).toNat % 128) hw (Nat.mod_lt _ (by decide))
    repeat' (first | with_reducible apply Stp.go | with_reducible refine imp fun _ => ?_ | (with_reducible refine hyp ?_ ?_; first | assumption | exact leftT_mem (by assumption)) | (with_reducible refine need ?_ ?_; first | trivial | omega | exact ⟨by assumption, by omega⟩ | (simp only [List.length_append, List.length_cons, List.length_nil, List.length_map, List.length_take, List.length_drop, List.length_replicate, List.length_set]; omega)) | (with_reducible refine fact ?_ ?_; first | trivial | exact ⟨rfl, rfl⟩ | kernel_rfl) | with_reducible refine choT (by assumption) ?_ | with_reducible refine choF (by assumption) ?_ | with_reducible refine choF' (by assumption) ?_ | (with_reducible refine altT ?_ ?_; first | omega | (simp only [List.length_append, List.length_cons, List.length_nil, List.length_map, List.length_take, List.length_drop, List.length_replicate, List.length_set]; omega)) | with_reducible refine altF ?_ | with_reducible refine all fun _ => ?_ | with_reducible refine both ?_ ?_ | (with_reducible refine choT ?_ ?_; omega) | (with_reducible refine choF ?_ ?_; omega) | with_reducible refine cho (fun _ => ?_) (fun _ => ?_))
    all_goals simp only [ht, and127] at *
    all_goals
      first
      | (refine ⟨g_fail ?_, by trivial⟩; rw [hg, if_pos (by omega)])
      | (refine ⟨g_done ?_, by trivial⟩; rw [hg, if_neg (by omega), if_pos (by omega), hb (by omega)])
      | (rw [if_neg (by omega), if_neg (by omega), ← hb (by omega)] at hg
         rw [← hb (by omega)] at hp
         exact again (i + 1, _) (by dsimp only; omega) ⟨by dsimp only; omega, hp, hg⟩ (Sub.refl _ _))
  · have hn : getG l = none := by
      rw [hg]
      rcases Nat.lt_or_ge i 10 with h | h
      · rw [List.drop_eq_nil_of_le (by omega)]
        rfl
      · exact getA_ge _ _ h
    repeat' (first | with_reducible apply Stp.go | with_reducible refine imp fun _ => ?_ | (with_reducible refine hyp ?_ ?_; first | assumption | exact leftT_mem (by assumption)) | (with_reducible refine need ?_ ?_; first | trivial | omega | exact ⟨by assumption, by omega⟩ | (simp only [List.length_append, List.length_cons, List.length_nil, List.length_map, List.length_take, List.length_drop, List.length_replicate, List.length_set]; omega)) | (with_reducible refine fact ?_ ?_; first | trivial | exact ⟨rfl, rfl⟩ | kernel_rfl) | with_reducible refine choT (by assumption) ?_ | with_reducible refine choF (by assumption) ?_ | with_reducible refine choF' (by assumption) ?_ | (with_reducible refine altT ?_ ?_; first | omega | (simp only [List.length_append, List.length_cons, List.length_nil, List.length_map, List.length_take, List.length_drop, List.length_replicate, List.length_set]; omega)) | with_reducible refine altF ?_ | with_reducible refine all fun _ => ?_ | with_reducible refine both ?_ ?_ | (with_reducible refine choT ?_ ?_; omega) | (with_reducible refine choF ?_ ?_; omega) | with_reducible refine cho (fun _ => ?_) (fun _ => ?_))
    exact ⟨g_fail hn, by trivial⟩
instance {a : AV} {l : List UInt8} {m : SM} [h : IsL a byt 1 l m] : PC Go.Proofs.Try.prog 78 [a] (l.length ≤ 1000000000000000) (.tuple [W64 (UInt64.ofNat (getV l)), I .i64 (getN l : Nat), B (getO l)]) := ⟨fun hl => ⟨[.lst 1 (l.map byt) m], ⟨h.sub, trivial⟩, codec_Get_ok l m hl⟩⟩
def codec_Text.mark : Mark := ⟨fun t => Nat.beq t 11, fun t => false, fun t => false, fun t => false, fun t => false⟩
def codec_Text.ann : Ann := ⟨fun n => [], fun n => none, fun n => none⟩
/-- 'marlstone/codec.Text' -/
def codec_Text.sh (a0 : AV) (σ : Store) (Q : AEnd → Store → Prop) : Prop :=
  Do (aPureC Go.Proofs.Try.prog 78 [a0]) fun t11 =>
  Do (aExt t11 0) fun t12 =>
  Do (aExt t11 1) fun t13 =>
  Do (aExt t11 2) fun t14 =>
  Do (aUn Go.Proofs.Try.prog .not t14) fun t16 =>
  Do (aGuard t16 false (aIs t12)) fun t18 =>
  Do (aGuard t16 false (aIs a0)) fun t19 =>
  Do (aGuard t16 false (aBuiltin Go.Proofs.Try.prog .len #[25] [t19])) fun t20 =>
  Do (aGuard t16 false (aIs t13)) fun t21 =>
  Do (aGuard t16 false (aBin Go.Proofs.Try.prog .sub 3 t20 t21)) fun t22 =>
  Do (aGuard t16 false (fun x => aConvN 3 71 t22 x Go.Proofs.Try.prog)) fun t23 =>
  Do (aGuard t16 false (aBin Go.Proofs.Try.prog .gtr 71 t18 t23)) fun t24 =>
  Do (aPick t16 (.val (.bool true)) t24) fun t25 =>
  aCond t25
    (Q (.ret (.tuple [(.val (.string ⟨#[]⟩)), (.val (.int .i64 0)), (.val (.bool false))])) σ)
    (Do (fun x => aConvN 71 3 t12 x Go.Proofs.Try.prog) fun t28 =>
  Do (aBin Go.Proofs.Try.prog .add 3 t13 t28) fun t29 =>
  Do (aSlice .slice 1 a0 (some t13) (some t29) none) fun t33 =>
  Do (aConvBS t33) fun t34 =>
  Q (.ret (.tuple [t34, t29, (.val (.bool true))])) σ)
theorem codec_Text.eq (a0 : AV) (σ : Store) (Q : AEnd → Store → Prop) : vc (semOf Go.Proofs.Try.prog codec_Text.mark) Go.Proofs.Try.f77.ntmps codec_Text.ann (bodyOf Go.Proofs.Try.f77) (endK [.tmp 2, .tmp 3, .tmp 4] Q) (argFr [a0]) σ = codec_Text.sh a0 σ Q := by kernel_rfl
theorem codec_Text.go {a0 : AV} {σ : Store} {Q : AEnd → Store → Prop} (h : codec_Text.sh a0 σ Q) : ACalls Go.Proofs.Try.prog 77 [a0] σ Q :=
  acalls_of_eq [.tmp 2, .tmp 3, .tmp 4] Go.Proofs.Try.func77 (by kernel_rfl) (by kernel_rfl) (by kernel_rfl) (by kernel_rfl) (codec_Text.eq a0 σ Q) h
def ref01_Text.mark : Mark := ⟨fun t => Nat.beq t 10, fun t => false, fun t => false, fun t => false, fun t => false⟩
def ref01_Text.ann : Ann := ⟨fun n => [], fun n => none, fun n => none⟩
theorem textG_eq (l : List UInt8) : textG l = if getO l = true then (if l.length - getN l < getV l then none else some ((l.drop (getN l)).take (getV l), getN l + getV l)) else none := by
  unfold textG getO getN getV
  cases getG l with
  | none => rfl
  | some r => rfl
theorem t_fail {l : List UInt8} (h : textG l = none) : AEnd.ret (.tuple [.val (.string ⟨#[]⟩), I .i64 0, B false]) = .ret (.tuple [S (textV l), I .i64 (textN l : Nat), B (textO l)]) := by
  simp [textV, textN, textO, h]
theorem t_done {l t : List UInt8} {n : Nat} (h : textG l = some (t, n)) : AEnd.ret (.tuple [S t, I .i64 (n : Nat), B true]) = .ret (.tuple [S (textV l), I .i64 (textN l : Nat), B (textO l)]) := by
  simp [textV, textN, textO, h]
theorem codec_Text_ok (l : List UInt8) (m : SM) (hl : l.length ≤ 1000000000000000) : aPure Go.Proofs.Try.prog 77 [.lst 1 (l.map byt) m] (.tuple [S (textV l), I .i64 (textN l : Nat), B (textO l)]) := by
  refine codec_Text.go ?_
  unfold codec_Text.sh
  obtain ⟨b1, b2, b3, b4⟩ := get_bound (s := l)
  have hu := u64_len b1
  repeat' (first | with_reducible apply Stp.go | with_reducible refine imp fun _ => ?_ | (with_reducible refine hyp ?_ ?_; first | assumption | exact leftT_mem (by assumption)) | (with_reducible refine need ?_ ?_; first | trivial | omega | exact ⟨by assumption, by omega⟩ | (simp only [List.length_append, List.length_cons, List.length_nil, List.length_map, List.length_take, List.length_drop, List.length_replicate, List.length_set]; omega)) | (with_reducible refine fact ?_ ?_; first | trivial | exact ⟨rfl, rfl⟩ | kernel_rfl) | with_reducible refine choT (by assumption) ?_ | with_reducible refine choF (by assumption) ?_ | with_reducible refine choF' (by assumption) ?_ | (with_reducible refine altT ?_ ?_; first | omega | (simp only [List.length_append, List.length_cons, List.length_nil, List.length_map, List.length_take, List.length_drop, List.length_replicate, List.length_set]; omega)) | with_reducible refine altF ?_ | with_reducible refine all fun _ => ?_ | with_reducible refine both ?_ ?_ | (with_reducible refine choT ?_ ?_; omega) | (with_reducible refine choF ?_ ?_; omega) | with_reducible refine cho (fun _ => ?_) (fun _ => ?_))
  · rename_i h1 h2
    refine ⟨t_fail ?_, rfl⟩
    rw [textG_eq, if_pos h1, if_pos (by omega)]
  · rename_i h1 h2
    rw [Nat.mod_eq_of_lt b1]
    refine ⟨t_done ?_, rfl⟩
    rw [textG_eq, if_pos h1, if_neg (by omega), List.drop_take, Nat.add_sub_cancel_left]
  · rename_i h1
    refine ⟨t_fail ?_, rfl⟩
    rw [textG_eq, if_neg h1]
instance {a : AV} {l : List UInt8} {m : SM} [h : IsL a byt 1 l m] : PC Go.Proofs.Try.prog 77 [a] (l.length ≤ 1000000000000000) (.tuple [S (textV l), I .i64 (textN l : Nat), B (textO l)]) := ⟨fun hl => ⟨[.lst 1 (l.map byt) m], ⟨h.sub, trivial⟩, codec_Text_ok l m hl⟩⟩
end Go.Ab

/- Reading an entry. -/
set_option linter.unusedVariables false
set_option linter.unusedSimpArgs false
namespace Go.Ab
def entry_reader_number.mark : Mark := ⟨fun t => Nat.beq t 16, fun t => false, fun t => false, fun t => false, fun t => false⟩
def entry_reader_number.ann : Ann := ⟨fun n => [], fun n => none, fun n => none⟩
/-- '(*marlstone/entry.reader).number' -/
def entry_reader_number.sh (a0 : AV) (σ : Store) (Q : AEnd → Store → Prop) : Prop :=
  Do (aNil a0) fun t8 =>
  Do (aFieldAddr 0 1 t8) fun t9 =>
  Do (loadA false 1 t9 σ) fun t10 =>
  Do (aNil a0) fun t12 =>
  Do (aFieldAddr 1 1 t12) fun t13 =>
  Do (loadA false 1 t13 σ) fun t14 =>
  Do (aSlice .slice 1 t10 (some t14) none none) fun t15 =>
  Do (aPureC Go.Proofs.Try.prog 78 [t15]) fun t16 =>
  Do (aExt t16 0) fun t17 =>
  Do (aExt t16 1) fun t18 =>
  Do (aExt t16 2) fun t19 =>
  Do (aNil a0) fun t21 =>
  Do (aFieldAddr 1 1 t21) fun t22 =>
  Do (loadA false 1 t22 σ) fun t23 =>
  Do (aBin Go.Proofs.Try.prog .add 3 t23 t18) fun t25 =>
  Do (aNil a0) fun t26 =>
  Do (aFieldAddr 1 1 t26) fun t27 =>
  storeA 1 t27 t25 σ fun u σ =>
  Do (aNil a0) fun t30 =>
  Do (aFieldAddr 2 1 t30) fun t31 =>
  Do (loadA false 1 t31 σ) fun t32 =>
  Do (aGuard t32 false (aIs t19)) fun t34 =>
  Do (aGuard t32 false (aUn Go.Proofs.Try.prog .not t34)) fun t35 =>
  Do (aPick t32 (.val (.bool true)) t35) fun t36 =>
  Do (aNil a0) fun t37 =>
  Do (aFieldAddr 2 1 t37) fun t38 =>
  storeA 1 t38 t36 σ fun u_1 σ_1 =>
  Q (.ret t17) σ_1
theorem entry_reader_number.eq (a0 : AV) (σ : Store) (Q : AEnd → Store → Prop) : vc (semOf Go.Proofs.Try.prog entry_reader_number.mark) Go.Proofs.Try.f60.ntmps entry_reader_number.ann (bodyOf Go.Proofs.Try.f60) (endK [.tmp 2] Q) (argFr [a0]) σ = entry_reader_number.sh a0 σ Q := by kernel_rfl
theorem entry_reader_number.go {a0 : AV} {σ : Store} {Q : AEnd → Store → Prop} (h : entry_reader_number.sh a0 σ Q) : ACalls Go.Proofs.Try.prog 60 [a0] σ Q :=
  acalls_of_eq [.tmp 2] Go.Proofs.Try.func60 (by kernel_rfl) (by kernel_rfl) (by kernel_rfl) (by kernel_rfl) (entry_reader_number.eq a0 σ Q) h
def entry_reader_text.mark : Mark := ⟨fun t => Nat.beq t 16, fun t => false, fun t => false, fun t => false, fun t => false⟩
def entry_reader_text.ann : Ann := ⟨fun n => [], fun n => none, fun n => none⟩
/-- '(*marlstone/entry.reader).text' -/
def entry_reader_text.sh (a0 : AV) (σ : Store) (Q : AEnd → Store → Prop) : Prop :=
  Do (aNil a0) fun t8 =>
  Do (aFieldAddr 0 1 t8) fun t9 =>
  Do (loadA false 1 t9 σ) fun t10 =>
  Do (aNil a0) fun t12 =>
  Do (aFieldAddr 1 1 t12) fun t13 =>
  Do (loadA false 1 t13 σ) fun t14 =>
  Do (aSlice .slice 1 t10 (some t14) none none) fun t15 =>
  Do (aPureC Go.Proofs.Try.prog 77 [t15]) fun t16 =>
  Do (aExt t16 0) fun t17 =>
  Do (aExt t16 1) fun t18 =>
  Do (aExt t16 2) fun t19 =>
  Do (aNil a0) fun t21 =>
  Do (aFieldAddr 1 1 t21) fun t22 =>
  Do (loadA false 1 t22 σ) fun t23 =>
  Do (aBin Go.Proofs.Try.prog .add 3 t23 t18) fun t25 =>
  Do (aNil a0) fun t26 =>
  Do (aFieldAddr 1 1 t26) fun t27 =>
  storeA 1 t27 t25 σ fun u σ =>
  Do (aNil a0) fun t30 =>
  Do (aFieldAddr 2 1 t30) fun t31 =>
  Do (loadA false 1 t31 σ) fun t32 =>
  Do (aGuard t32 false (aIs t19)) fun t34 =>
  Do (aGuard t32 false (aUn Go.Proofs.Try.prog .not t34)) fun t35 =>
  Do (aPick t32 (.val (.bool true)) t35) fun t36 =>
  Do (aNil a0) fun t37 =>
  Do (aFieldAddr 2 1 t37) fun t38 =>
  storeA 1 t38 t36 σ fun u_1 σ_1 =>
  Q (.ret t17) σ_1
theorem entry_reader_text.eq (a0 : AV) (σ : Store) (Q : AEnd → Store → Prop) : vc (semOf Go.Proofs.Try.prog entry_reader_text.mark) Go.Proofs.Try.f61.ntmps entry_reader_text.ann (bodyOf Go.Proofs.Try.f61) (endK [.tmp 2] Q) (argFr [a0]) σ = entry_reader_text.sh a0 σ Q := by kernel_rfl
theorem entry_reader_text.go {a0 : AV} {σ : Store} {Q : AEnd → Store → Prop} (h : entry_reader_text.sh a0 σ Q) : ACalls Go.Proofs.Try.prog 61 [a0] σ Q :=
  acalls_of_eq [.tmp 2] Go.Proofs.Try.func61 (by kernel_rfl) (by kernel_rfl) (by kernel_rfl) (by kernel_rfl) (entry_reader_text.eq a0 σ Q) h
theorem number_ok (b : Nat) (l : List UInt8) (m : SM) (at_ : Nat) (w : Bool) (hl : l.length ≤ 1000000000000000) (ha : at_ ≤ l.length) : ACalls Go.Proofs.Try.prog 60 [ptrAt b 0] [.var b 96 [.lst 1 (l.map byt) m, I .i64 (at_ : Nat), B w]]
    fun x σ' => x = .ret (W64 (UInt64.ofNat (getV (l.drop at_)))) ∧ σ' = [.var b 96 [.lst 1 (l.map byt) m, I .i64 ((at_ + getN (l.drop at_) : Nat) : Int), B (w || !getO (l.drop at_))]] := by
  refine entry_reader_number.go ?_
  unfold entry_reader_number.sh
  obtain ⟨b1, b2, b3, b4⟩ := get_bound (s := l.drop at_)
  rw [List.length_drop] at b3
  repeat' (first | with_reducible apply Stp.go | with_reducible refine imp fun _ => ?_ | (with_reducible refine hyp ?_ ?_; first | assumption | exact leftT_mem (by assumption)) | (with_reducible refine need ?_ ?_; first | trivial | omega | exact ⟨by assumption, by omega⟩ | (simp only [List.length_append, List.length_cons, List.length_nil, List.length_map, List.length_take, List.length_drop, List.length_replicate, List.length_set]; omega)) | (with_reducible refine fact ?_ ?_; first | trivial | exact ⟨rfl, rfl⟩ | kernel_rfl) | with_reducible refine choT (by assumption) ?_ | with_reducible refine choF (by assumption) ?_ | with_reducible refine choF' (by assumption) ?_ | (with_reducible refine altT ?_ ?_; first | omega | (simp only [List.length_append, List.length_cons, List.length_nil, List.length_map, List.length_take, List.length_drop, List.length_replicate, List.length_set]; omega)) | with_reducible refine altF ?_ | with_reducible refine all fun _ => ?_ | with_reducible refine both ?_ ?_ | (with_reducible refine choT ?_ ?_; omega) | (with_reducible refine choF ?_ ?_; omega) | with_reducible refine cho (fun _ => ?_) (fun _ => ?_))
  all_goals
    refine ⟨rfl, ?_⟩
    simp_all
instance {b at_ : Nat} {l : List UInt8} {m : SM} {w : Bool} {x : Int} {σ rest : Store} {put : Ent → Store} [hv : VarAt b σ 96 [.lst 1 (l.map byt) m, .val (.int .i64 x), B w] put rest] [hx : NatOf x at_] : EC Go.Proofs.Try.prog 60 [ptrAt b 0] σ (l.length ≤ 1000000000000000 ∧ at_ ≤ l.length) Unit
    (fun _ => W64 (UInt64.ofNat (getV (l.drop at_)))) (fun _ => put (.var b 96 [.lst 1 (l.map byt) m, I .i64 ((at_ + getN (l.drop at_) : Nat) : Int), B (w || !getO (l.drop at_))])) := ⟨fun ⟨h1, h2⟩ => by
  have e := hx.eq
  subst e
  exact (ACalls.at_ (number_ok b l m at_ w h1 h2)).mono fun x σ' ⟨g1, g2⟩ => ⟨(), g1, g2⟩⟩
theorem text_ok (b : Nat) (l : List UInt8) (m : SM) (at_ : Nat) (w : Bool) (hl : l.length ≤ 1000000000000000) (ha : at_ ≤ l.length) : ACalls Go.Proofs.Try.prog 61 [ptrAt b 0] [.var b 96 [.lst 1 (l.map byt) m, I .i64 (at_ : Nat), B w]]
    fun x σ' => x = .ret (S (textV (l.drop at_))) ∧ σ' = [.var b 96 [.lst 1 (l.map byt) m, I .i64 ((at_ + textN (l.drop at_) : Nat) : Int), B (w || !textO (l.drop at_))]] := by
  refine entry_reader_text.go ?_
  unfold entry_reader_text.sh
  obtain ⟨b1, b2, b3⟩ := text_bound (s := l.drop at_)
  rw [List.length_drop] at b1
  repeat' (first | with_reducible apply Stp.go | with_reducible refine imp fun _ => ?_ | (with_reducible refine hyp ?_ ?_; first | assumption | exact leftT_mem (by assumption)) | (with_reducible refine need ?_ ?_; first | trivial | omega | exact ⟨by assumption, by omega⟩ | (simp only [List.length_append, List.length_cons, List.length_nil, List.length_map, List.length_take, List.length_drop, List.length_replicate, List.length_set]; omega)) | (with_reducible refine fact ?_ ?_; first | trivial | exact ⟨rfl, rfl⟩ | kernel_rfl) | with_reducible refine choT (by assumption) ?_ | with_reducible refine choF (by assumption) ?_ | with_reducible refine choF' (by assumption) ?_ | (with_reducible refine altT ?_ ?_; first | omega | (simp only [List.length_append, List.length_cons, List.length_nil, List.length_map, List.length_take, List.length_drop, List.length_replicate, List.length_set]; omega)) | with_reducible refine altF ?_ | with_reducible refine all fun _ => ?_ | with_reducible refine both ?_ ?_ | (with_reducible refine choT ?_ ?_; omega) | (with_reducible refine choF ?_ ?_; omega) | with_reducible refine cho (fun _ => ?_) (fun _ => ?_))
  all_goals
    refine ⟨rfl, ?_⟩
    simp_all
instance {b at_ : Nat} {l : List UInt8} {m : SM} {w : Bool} {x : Int} {σ rest : Store} {put : Ent → Store} [hv : VarAt b σ 96 [.lst 1 (l.map byt) m, .val (.int .i64 x), B w] put rest] [hx : NatOf x at_] : EC Go.Proofs.Try.prog 61 [ptrAt b 0] σ (l.length ≤ 1000000000000000 ∧ at_ ≤ l.length) Unit
    (fun _ => S (textV (l.drop at_))) (fun _ => put (.var b 96 [.lst 1 (l.map byt) m, I .i64 ((at_ + textN (l.drop at_) : Nat) : Int), B (w || !textO (l.drop at_))])) := ⟨fun ⟨h1, h2⟩ => by
  have e := hx.eq
  subst e
  exact (ACalls.at_ (text_ok b l m at_ w h1 h2)).mono fun x σ' ⟨g1, g2⟩ => ⟨(), g1, g2⟩⟩
def entry_Parse.mark : Mark := ⟨fun t => Nat.beq t 45, fun t => false, fun t => false, fun t => Nat.beq t 14 || Nat.beq t 27, fun t => false⟩
def entry_Parse.ann : Ann := ⟨fun n => [], fun n => bif Nat.beq n 8 then some [2, 5, 7] else none, fun n => bif Nat.beq n 5 then some [2, 5, 7] else bif Nat.beq n 10 then some [2, 3, 4] else none⟩
/-- 'marlstone/entry.Parse' -/
def entry_Parse.sh (a0 : AV) (σ : Store) (Q : AEnd → Store → Prop) : Prop :=
  aNewVar 52 [.val (.string ⟨#[]⟩), .val (.string ⟨#[]⟩), .val (.bool false), .val (.int .i64 0)] σ fun t2 σ =>
  Do (aBuiltin Go.Proofs.Try.prog .len #[25] [a0]) fun t9 =>
  Do (aBin Go.Proofs.Try.prog .eql 3 t9 (.val (.int .i64 0))) fun t10 =>
  Do (aGuard t10 false (aIs a0)) fun t12 =>
  Do (aGuard t10 false (aIndexAddr .slice 1 t12 (.val (.int .i64 0)))) fun t13 =>
  Do (aGuard t10 false (loadF false 1 t13)) fun t14 =>
  Do (aGuard t10 false (aBin Go.Proofs.Try.prog .gtr 5 t14 (W8 1))) fun t15 =>
  Do (aPick t10 (.val (.bool true)) t15) fun t16 =>
  aCond t16
    (Do (aLit [.val (.string ⟨#[]⟩), .val (.string ⟨#[]⟩), .val (.bool false), .val (.int .i64 0)] [(0, 1), (1, 1), (2, 1), (3, 1)] []) fun t17 =>
    storeA 4 t2 t17 σ fun u σ_1 =>
    Do (loadA true 4 t2 σ_1) fun r2 => Q (.ret (.tuple [r2, (.val (.int .i64 0)), (.val (.int .i64 2))])) σ_1)
    (Do (aLit [.val (.slice none 0 0), .val (.int .i64 0), .val (.bool false)] [(0, 1), (1, 1), (2, 1)] [(0, a0), (1, (.val (.int .i64 1)))]) fun t19 =>
  aNewVar 96 (t19 : AV).cells σ fun t20 σ_2 =>
  aCall Go.Proofs.Try.prog 60 [t20] σ_2 (fun t22 σ_3 =>
  aJoin (fun j =>
    Do (aIndexAddr .slice 1 a0 (.val (.int .i64 0))) fun t26 =>
    Do (loadF false 1 t26) fun t27 =>
    Do (aBin Go.Proofs.Try.prog .eql 5 t27 (W8 1)) fun t28 =>
    Do (aBuiltin Go.Proofs.Try.prog .min #[71, 71] [t22, (W64 1099511627777)]) fun t30 =>
    Do (fun x => aConvN 71 3 t30 x Go.Proofs.Try.prog) fun t31 =>
    Both (aCall Go.Proofs.Try.prog 61 [t20] σ_3 (fun t24 σ_5 =>
    Do (aLit [.val (.string ⟨#[]⟩), .val (.string ⟨#[]⟩), .val (.bool false), .val (.int .i64 0)] [(0, 1), (1, 1), (2, 1), (3, 1)] [(0, t24), (2, t28), (3, t31)]) fun t32 =>
    aNewVar 52 [.val (.string ⟨#[]⟩), .val (.string ⟨#[]⟩), .val (.bool false), .val (.int .i64 0)] σ_5 fun t7 σ_6 =>
    storeA 4 t7 t32 σ_6 fun u_1 σ_7 =>
    j [t2, t20, t7] σ_7) (fun e σ_8 => Q (.pan e) σ_8)) (aNewVar 52 [.val (.string ⟨#[]⟩), .val (.string ⟨#[]⟩), .val (.bool false), .val (.int .i64 0)] σ_3 fun t7_1 σ_9 =>
    aCall Go.Proofs.Try.prog 61 [t20] σ_9 (fun t24_1 σ_10 =>
    Do (aLit [.val (.string ⟨#[]⟩), .val (.string ⟨#[]⟩), .val (.bool false), .val (.int .i64 0)] [(0, 1), (1, 1), (2, 1), (3, 1)] [(0, t24_1), (2, t28), (3, t31)]) fun t32_1 =>
    storeA 4 t7_1 t32_1 σ_10 fun u_2 σ_11 =>
    j [t2, t20, t7_1] σ_11) (fun e_1 σ_12 => Q (.pan e_1) σ_12))) fun vs σ_4 =>
  At vs 0 fun s2 => At vs 1 fun s5 => At vs 2 fun s7 => aJoin (fun j_1 =>
    Do (aFieldAddr 2 1 s7) fun t33 =>
    Do (loadA false 1 t33 σ_4) fun t34 =>
    Do (aUn Go.Proofs.Try.prog .not t34) fun t35 =>
    aCond t35
      (aCall Go.Proofs.Try.prog 61 [s5] σ_4 (fun t37 σ_14 =>
      Do (aFieldAddr 1 1 s7) fun t38 =>
      storeA 1 t38 t37 σ_14 fun u_3 σ_15 =>
      j_1 [s2, s5, s7] σ_15) (fun e_2 σ_16 => Q (.pan e_2) σ_16))
      (j_1 [s2, s5, s7] σ_4)) fun vs_1 σ_13 =>
  At vs_1 0 fun s2_1 => At vs_1 1 fun s5_1 => At vs_1 2 fun s7_1 => Do (aNil s5_1) fun t40 =>
  Do (aFieldAddr 2 1 t40) fun t41 =>
  Do (loadA false 1 t41 σ_13) fun t42 =>
  Do (aGuard t42 false (loadA true 4 s7_1 σ_13)) fun t44 =>
  Do (aGuard t42 false (aPureC Go.Proofs.Try.prog 46 [t44])) fun t45 =>
  Do (aGuard t42 false (aUn Go.Proofs.Try.prog .not t45)) fun t46 =>
  Do (aPick t42 (.val (.bool true)) t46) fun t47 =>
  aCond t47
    (Do (aLit [.val (.string ⟨#[]⟩), .val (.string ⟨#[]⟩), .val (.bool false), .val (.int .i64 0)] [(0, 1), (1, 1), (2, 1), (3, 1)] []) fun t48 =>
    storeA 4 s2_1 t48 σ_13 fun u_4 σ_17 =>
    Do (loadA true 4 s2_1 σ_17) fun r2_1 => Q (.ret (.tuple [r2_1, (.val (.int .i64 0)), (.val (.int .i64 2))])) σ_17)
    (aJoin (fun j_2 =>
    Do (loadA true 4 s7_1 σ_13) fun t49 =>
    Do (aNil s5_1) fun t51 =>
    Do (aFieldAddr 1 1 t51) fun t52 =>
    Both (Do (loadA false 1 t52 σ_13) fun t53 =>
    storeA 4 s2_1 t49 σ_13 fun u_5 σ_19 =>
    j_2 [s2_1, t53, (.val (.int .i64 0))] σ_19) (storeA 4 s2_1 t49 σ_13 fun u_6 σ_20 =>
    Do (loadA false 1 t52 σ_20) fun t53_1 =>
    j_2 [s2_1, t53_1, (.val (.int .i64 0))] σ_20)) fun vs_2 σ_18 =>
  At vs_2 0 fun s2_2 => At vs_2 1 fun s3 => At vs_2 2 fun s4 => Do (loadA true 4 s2_2 σ_18) fun r2_2 => Q (.ret (.tuple [r2_2, s3, s4])) σ_18)) (fun e_3 σ_21 => Q (.pan e_3) σ_21))
theorem entry_Parse.eq (a0 : AV) (σ : Store) (Q : AEnd → Store → Prop) : vc (semOf Go.Proofs.Try.prog entry_Parse.mark) Go.Proofs.Try.f27.ntmps entry_Parse.ann (bodyOf Go.Proofs.Try.f27) (endK [.cell 2 true 4, .tmp 3, .tmp 4] Q) (argFr [a0]) σ = entry_Parse.sh a0 σ Q := by kernel_rfl
theorem entry_Parse.go {a0 : AV} {σ : Store} {Q : AEnd → Store → Prop} (h : entry_Parse.sh a0 σ Q) : ACalls Go.Proofs.Try.prog 27 [a0] σ Q :=
  acalls_of_eq [.cell 2 true 4, .tmp 3, .tmp 4] Go.Proofs.Try.func27 (by kernel_rfl) (by kernel_rfl) (by kernel_rfl) (by kernel_rfl) (entry_Parse.eq a0 σ Q) h
theorem p_fail {l : List UInt8} (h : parseE l = none) : AEnd.ret (.tuple [En.zero.av, I .i64 0, I .i64 2]) = .ret (.tuple [(parseV l).av, I .i64 (parseN l : Nat), I .i64 (parseX l)]) := by
  simp [parseV, parseN, parseX, h]
theorem p_done {l : List UInt8} {e : En} {n : Nat} (h : parseE l = some (e, n)) : AEnd.ret (.tuple [e.av, I .i64 (n : Nat), I .i64 0]) = .ret (.tuple [(parseV l).av, I .i64 (parseN l : Nat), I .i64 (parseX l)]) := by
  simp [parseV, parseN, parseX, h]
theorem entry_Parse_ok (l : List UInt8) (m : SM) (hl : l.length ≤ 1000000000000000) : aPure Go.Proofs.Try.prog 27 [.lst 1 (l.map byt) m] (.tuple [(parseV l).av, I .i64 (parseN l : Nat), I .i64 (parseX l)]) := by
  refine ACalls.fin (entry_Parse.go ?_)
  unfold entry_Parse.sh
  obtain ⟨b1, b2, b3, b4⟩ := get_bound (s := l.drop 1)
  obtain ⟨c1, c2, c3⟩ := text_bound (s := l.drop (1 + getN (l.drop 1)))
  obtain ⟨d1, d2, d3⟩ := text_bound (s := l.drop (1 + getN (l.drop 1) + textN (l.drop (1 + getN (l.drop 1)))))
  rw [List.length_drop] at b3 c1 d1
  repeat' (first | with_reducible apply Stp.go | with_reducible refine imp fun _ => ?_ | (with_reducible refine hyp ?_ ?_; first | assumption | exact leftT_mem (by assumption)) | (with_reducible refine need ?_ ?_; first | trivial | omega | exact ⟨by assumption, by omega⟩ | (simp only [List.length_append, List.length_cons, List.length_nil, List.length_map, List.length_take, List.length_drop, List.length_replicate, List.length_set]; omega)) | (with_reducible refine fact ?_ ?_; first | trivial | exact ⟨rfl, rfl⟩ | kernel_rfl) | with_reducible refine choT (by assumption) ?_ | with_reducible refine choF (by assumption) ?_ | with_reducible refine choF' (by assumption) ?_ | (with_reducible refine altT ?_ ?_; first | omega | (simp only [List.length_append, List.length_cons, List.length_nil, List.length_map, List.length_take, List.length_drop, List.length_replicate, List.length_set]; omega)) | with_reducible refine altF ?_ | with_reducible refine all fun _ => ?_ | with_reducible refine both ?_ ?_ | (with_reducible refine choT ?_ ?_; omega) | (with_reducible refine choF ?_ ?_; omega) | with_reducible refine cho (fun _ => ?_) (fun _ => ?_))
  · rename_i h0
    refine ⟨_, _, _, rfl, Sub.app_nil _, p_fail ?_, rfl⟩
    rw [parseE, if_pos (.inl (List.length_eq_zero_iff.1 h0))]
  · rename_i h0 h1
    refine ⟨_, _, _, rfl, Sub.app_nil _, p_fail ?_, rfl⟩
    rw [parseE, if_pos (.inr h1)]
  · rename_i r2 h0 h1 r _
    have hmin : (if (UInt64.ofNat (getV (l.drop 1))).toNat ≤ UInt64.toNat 1099511627777 then UInt64.ofNat (getV (l.drop 1)) else 1099511627777).toNat = min (getV (l.drop 1)) 1099511627777 := by
      have e := u64_len b1
      have e2 : UInt64.toNat 1099511627777 = 1099511627777 := rfl
      rw [e, e2]
      split
      · rw [e]; omega
      · rw [e2]; omega
    refine joinI (β := Nat) (fun _ => True) (fun b => [ptrAt r2 0, ptrAt r 0, ptrAt b 0]) (fun b => [.var r 96 [.lst 1 (l.map byt) m, I .i64 ((1 + getN (l.drop 1) + textN (l.drop (1 + getN (l.drop 1))) : Nat) : Int), B (!getO (l.drop 1) || !textO (l.drop (1 + getN (l.drop 1))))], .var r2 52 En.zero.cs,
      .var b 52 (En.cs ⟨textV (l.drop (1 + getN (l.drop 1))), [], decide ((l.getD 0 default).toNat = 1), (min (getV (l.drop 1)) 1099511627777 : Nat)⟩)]) ?_ ?_
    · repeat' (first | with_reducible apply Stp.go | with_reducible refine imp fun _ => ?_ | (with_reducible refine hyp ?_ ?_; first | assumption | exact leftT_mem (by assumption)) | (with_reducible refine need ?_ ?_; first | trivial | omega | exact ⟨by assumption, by omega⟩ | (simp only [List.length_append, List.length_cons, List.length_nil, List.length_map, List.length_take, List.length_drop, List.length_replicate, List.length_set]; omega)) | (with_reducible refine fact ?_ ?_; first | trivial | exact ⟨rfl, rfl⟩ | kernel_rfl) | with_reducible refine choT (by assumption) ?_ | with_reducible refine choF (by assumption) ?_ | with_reducible refine choF' (by assumption) ?_ | (with_reducible refine altT ?_ ?_; first | omega | (simp only [List.length_append, List.length_cons, List.length_nil, List.length_map, List.length_take, List.length_drop, List.length_replicate, List.length_set]; omega)) | with_reducible refine altF ?_ | with_reducible refine all fun _ => ?_ | with_reducible refine both ?_ ?_ | (with_reducible refine choT ?_ ?_; omega) | (with_reducible refine choF ?_ ?_; omega) | with_reducible refine cho (fun _ => ?_) (fun _ => ?_))
      all_goals try rw [hmin]
      repeat' (first | with_reducible apply Stp.go | with_reducible refine imp fun _ => ?_ | (with_reducible refine hyp ?_ ?_; first | assumption | exact leftT_mem (by assumption)) | (with_reducible refine need ?_ ?_; first | trivial | omega | exact ⟨by assumption, by omega⟩ | (simp only [List.length_append, List.length_cons, List.length_nil, List.length_map, List.length_take, List.length_drop, List.length_replicate, List.length_set]; omega)) | (with_reducible refine fact ?_ ?_; first | trivial | exact ⟨rfl, rfl⟩ | kernel_rfl) | with_reducible refine choT (by assumption) ?_ | with_reducible refine choF (by assumption) ?_ | with_reducible refine choF' (by assumption) ?_ | (with_reducible refine altT ?_ ?_; first | omega | (simp only [List.length_append, List.length_cons, List.length_nil, List.length_map, List.length_take, List.length_drop, List.length_replicate, List.length_set]; omega)) | with_reducible refine altF ?_ | with_reducible refine all fun _ => ?_ | with_reducible refine both ?_ ?_ | (with_reducible refine choT ?_ ?_; omega) | (with_reducible refine choF ?_ ?_; omega) | with_reducible refine cho (fun _ => ?_) (fun _ => ?_))
      all_goals try rw [hmin]
      all_goals try rw [Bool.false_or]
      all_goals exact meet _ trivial (subS _)
    · intro b _
      repeat' (first | with_reducible apply Stp.go | with_reducible refine imp fun _ => ?_ | (with_reducible refine hyp ?_ ?_; first | assumption | exact leftT_mem (by assumption)) | (with_reducible refine need ?_ ?_; first | trivial | omega | exact ⟨by assumption, by omega⟩ | (simp only [List.length_append, List.length_cons, List.length_nil, List.length_map, List.length_take, List.length_drop, List.length_replicate, List.length_set]; omega)) | (with_reducible refine fact ?_ ?_; first | trivial | exact ⟨rfl, rfl⟩ | kernel_rfl) | with_reducible refine choT (by assumption) ?_ | with_reducible refine choF (by assumption) ?_ | with_reducible refine choF' (by assumption) ?_ | (with_reducible refine altT ?_ ?_; first | omega | (simp only [List.length_append, List.length_cons, List.length_nil, List.length_map, List.length_take, List.length_drop, List.length_replicate, List.length_set]; omega)) | with_reducible refine altF ?_ | with_reducible refine all fun _ => ?_ | with_reducible refine both ?_ ?_ | (with_reducible refine choT ?_ ?_; omega) | (with_reducible refine choF ?_ ?_; omega) | with_reducible refine cho (fun _ => ?_) (fun _ => ?_))
      refine joinE ?_
      repeat' (first | with_reducible apply Stp.go | with_reducible refine imp fun _ => ?_ | (with_reducible refine hyp ?_ ?_; first | assumption | exact leftT_mem (by assumption)) | (with_reducible refine need ?_ ?_; first | trivial | omega | exact ⟨by assumption, by omega⟩ | (simp only [List.length_append, List.length_cons, List.length_nil, List.length_map, List.length_take, List.length_drop, List.length_replicate, List.length_set]; omega)) | (with_reducible refine fact ?_ ?_; first | trivial | exact ⟨rfl, rfl⟩ | kernel_rfl) | with_reducible refine choT (by assumption) ?_ | with_reducible refine choF (by assumption) ?_ | with_reducible refine choF' (by assumption) ?_ | (with_reducible refine altT ?_ ?_; first | omega | (simp only [List.length_append, List.length_cons, List.length_nil, List.length_map, List.length_take, List.length_drop, List.length_replicate, List.length_set]; omega)) | with_reducible refine altF ?_ | with_reducible refine all fun _ => ?_ | with_reducible refine both ?_ ?_ | (with_reducible refine choT ?_ ?_; omega) | (with_reducible refine choF ?_ ?_; omega) | with_reducible refine cho (fun _ => ?_) (fun _ => ?_))
      all_goals try refine joinE ?_
      repeat' (first | with_reducible apply Stp.go | with_reducible refine imp fun _ => ?_ | (with_reducible refine hyp ?_ ?_; first | assumption | exact leftT_mem (by assumption)) | (with_reducible refine need ?_ ?_; first | trivial | omega | exact ⟨by assumption, by omega⟩ | (simp only [List.length_append, List.length_cons, List.length_nil, List.length_map, List.length_take, List.length_drop, List.length_replicate, List.length_set]; omega)) | (with_reducible refine fact ?_ ?_; first | trivial | exact ⟨rfl, rfl⟩ | kernel_rfl) | with_reducible refine choT (by assumption) ?_ | with_reducible refine choF (by assumption) ?_ | with_reducible refine choF' (by assumption) ?_ | (with_reducible refine altT ?_ ?_; first | omega | (simp only [List.length_append, List.length_cons, List.length_nil, List.length_map, List.length_take, List.length_drop, List.length_replicate, List.length_set]; omega)) | with_reducible refine altF ?_ | with_reducible refine all fun _ => ?_ | with_reducible refine both ?_ ?_ | (with_reducible refine choT ?_ ?_; omega) | (with_reducible refine choF ?_ ?_; omega) | with_reducible refine cho (fun _ => ?_) (fun _ => ?_))
      · rename_i hd hw
        exact ⟨_, _, _, rfl, Sub.app_nil _, p_fail (parse_fail1 hw), rfl⟩
      · rename_i hd hw hr
        exact ⟨_, _, _, rfl, Sub.app_nil _, p_done (by rw [parse_del h0 h1 hd hw, if_pos hr]), rfl⟩
      · rename_i hd hw hr
        exact ⟨_, _, _, rfl, Sub.app_nil _, p_done (by rw [parse_del h0 h1 hd hw, if_pos hr]), rfl⟩
      · rename_i hd hw hr
        exact ⟨_, _, _, rfl, Sub.app_nil _, p_fail (by rw [parse_del h0 h1 hd hw, if_neg hr]), rfl⟩
      · rename_i hd _ hw
        exact ⟨_, _, _, rfl, Sub.app_nil _, p_fail (parse_fail2 hd hw), rfl⟩
      · rename_i hd _ hw hr
        exact ⟨_, _, _, rfl, Sub.app_nil _, p_done (by rw [parse_val h0 h1 hd hw, if_pos hr]), rfl⟩
      · rename_i hd _ hw hr
        exact ⟨_, _, _, rfl, Sub.app_nil _, p_done (by rw [parse_val h0 h1 hd hw, if_pos hr]), rfl⟩
      · rename_i hd _ hw hr
        exact ⟨_, _, _, rfl, Sub.app_nil _, p_fail (by rw [parse_val h0 h1 hd hw, if_neg hr]), rfl⟩
end Go.Ab

/- Layer 11: what is shown in any case; TableLevels, TableKnown. -/
set_option linter.unusedVariables false
set_option linter.unusedSimpArgs false
namespace Go.Ab
abbrev TabT : TypeId := 34
def tabV (lev n : Int) (d f g : List UInt8) : List Value := .int .i64 lev :: .int .i64 n :: (d.map bytv ++ [.string ⟨f.toArray⟩, .string ⟨g.toArray⟩])
theorem eqFields_same {P : Program} (d : Nat) (xs : Array Value) (w : World) : ∀ fs : List Field, (∀ f ∈ fs, ∃ a, (part f.type xs f.offset).run P w = .ok a w ∧ (Op.equalIn d f.type a a).run P w = .ok true w) → (Op.eqFields d xs xs fs).run P w = .ok true w
  | [], _ => by simp [Op.eqFields]
  | f :: fs, h => by
    obtain ⟨a, h1, h2⟩ := h f List.mem_cons_self
    have ih := eqFields_same d xs w fs fun g hg => h g (List.mem_cons_of_mem _ hg)
    by_cases hn : f.name = "_"
    · simp [Op.eqFields, hn, ih]
    · simp [Op.eqFields, hn, Sem.run_bind, h1, h2, Result.andThen_ok, ih]
def fieldIs (P : Program) (f : Field) : Nat → Bool
  | 0 => f.offset == 0 && (match P.underlying f.type with | some (.int .i64) => true | _ => false)
  | 1 => f.offset == 1 && (match P.underlying f.type with | some (.int .i64) => true | _ => false)
  | 2 => f.offset == 2 && (match P.underlying f.type with | some (.array 32 e) => (match P.underlying e with | some (.int .u8) => true | _ => false) && (P.info? e).isSome && P.cellsOf e == 1 && P.cellsOf f.type == 32 | _ => false) && (P.info? f.type).isSome && !P.eqGuardType P.depth f.type
  | 3 => f.offset == 34 && (match P.underlying f.type with | some .string => true | _ => false)
  | _ => f.offset == 35 && (match P.underlying f.type with | some .string => true | _ => false)
def fieldsAre (P : Program) (t : TypeId) : Bool := match (P.fieldsOf t).toList with
  | [f0, f1, f2, f3, f4] => fieldIs P f0 0 && fieldIs P f1 1 && fieldIs P f2 2 && fieldIs P f3 3 && fieldIs P f4 4 && !P.stoodInHeld t && (match P.underlying t with | some (.struct _) => true | _ => false) && !P.eqGuardType P.depth t
  | _ => false
theorem tab_fields : fieldsAre Go.Proofs.Try.prog TabT = true := by kernel_rfl
theorem run_tab (lev n : Int) (d kf kl : List UInt8) (hd : d.length = 32) (w : World) : (Op.equalIn 10000 TabT (.agg (tabV lev n d kf kl).toArray) (.agg (tabV lev n d kf kl).toArray)).run Go.Proofs.Try.prog w = .ok true w := by
  have h := tab_fields
  unfold fieldsAre at h
  split at h
  · rename_i f0 f1 f2 f3 f4 hf
    simp only [Bool.and_eq_true, Bool.not_eq_true'] at h
    obtain ⟨⟨⟨⟨⟨⟨⟨k0, k1⟩, k2⟩, k3⟩, k4⟩, hh⟩, hs⟩, hg⟩ := h
    have hu : Program.underlying Go.Proofs.Try.prog TabT = some (.struct (Program.fieldsOf Go.Proofs.Try.prog TabT)) := by
      split at hs
      · rename_i fs hfs
        rw [Program.fieldsOf, hfs]
      · cases hs
    show (Op.equalIn (9999 + 1) TabT _ _).run Go.Proofs.Try.prog w = _
    rw [run_equalIn_struct w 9999 TabT _ _ hu hh, hf]
    refine eqFields_same 9999 _ w _ fun f hfm => ?_
    have e2 : (d.map bytv).length = 32 := by simpa using hd
    simp only [List.mem_cons, List.not_mem_nil, or_false] at hfm
    rcases hfm with rfl | rfl | rfl | rfl | rfl
    · simp only [fieldIs, Bool.and_eq_true, beq_iff_eq] at k0
      obtain ⟨ho, ht⟩ := k0
      split at ht
      · rename_i hu
        rw [ho]
        exact ⟨_, part_plain hu rfl (v := .int .i64 lev) (by simp [tabV]) w, by rw [show (9999 : Nat) = 9998 + 1 from rfl, run_equalIn_int w 9998 _ .i64 .i64 _ _ hu]; simp⟩
      · cases ht
    · simp only [fieldIs, Bool.and_eq_true, beq_iff_eq] at k1
      obtain ⟨ho, ht⟩ := k1
      split at ht
      · rename_i hu
        rw [ho]
        exact ⟨_, part_plain hu rfl (v := .int .i64 n) (by simp [tabV]) w, by rw [show (9999 : Nat) = 9998 + 1 from rfl, run_equalIn_int w 9998 _ .i64 .i64 _ _ hu]; simp⟩
      · cases ht
    · simp only [fieldIs, Bool.and_eq_true, beq_iff_eq] at k2
      obtain ⟨⟨⟨ho, ht⟩, hi⟩, _⟩ := k2
      obtain ⟨i, hi⟩ := Option.isSome_iff_exists.1 hi
      split at ht
      · rename_i e hu
        simp only [Bool.and_eq_true, beq_iff_eq] at ht
        obtain ⟨⟨⟨h1, h2⟩, h3⟩, h4⟩ := ht
        obtain ⟨j, h2⟩ := Option.isSome_iff_exists.1 h2
        split at h1
        · rename_i hue
          rw [ho]
          have hx : ((tabV lev n d kf kl).toArray.extract 2 (2 + 32)) = (d.map bytv).toArray := by
            rw [← Array.toList_inj, Array.toList_extract]
            simp only [List.extract, tabV]
            show ((d.map bytv ++ [_, _]).take 32) = _
            rw [List.take_append_of_le_length (by omega), List.take_of_length_le (by omega)]
          refine ⟨.agg (d.map bytv).toArray, ?_, ?_⟩
          · have hsz : i.size = 32 := by
              have := h4
              simpa [Program.cellsOf, hi] using this
            rw [← hx]; simp [part, isAgg, Sem.run_bind, run_underlying hu, run_sizeOf hi, Result.andThen_ok, hsz]
          · rw [show (9999 : Nat) = 9997 + 1 + 1 from rfl, run_equalIn_array w (9997 + 1) _ _ hu h2, h3, run_items hue d d 9997 w _ (fun i hi => by have := List.mem_range.1 hi; omega), all_same hd hd]
            simp
        · cases h1
      · cases ht
    · simp only [fieldIs, Bool.and_eq_true, beq_iff_eq] at k3
      obtain ⟨ho, ht⟩ := k3
      split at ht
      · rename_i hu
        rw [ho]
        exact ⟨_, part_plain hu rfl (v := .string ⟨kf.toArray⟩) (by simp [tabV, e2, hd]) w, by rw [show (9999 : Nat) = 9998 + 1 from rfl, run_equalIn_string w 9998 _ _ _ hu]; simp⟩
      · cases ht
    · simp only [fieldIs, Bool.and_eq_true, beq_iff_eq] at k4
      obtain ⟨ho, ht⟩ := k4
      split at ht
      · rename_i hu
        rw [ho]
        exact ⟨_, part_plain hu rfl (v := .string ⟨kl.toArray⟩) (by simp [tabV, e2, hd]) w, by rw [show (9999 : Nat) = 9998 + 1 from rfl, run_equalIn_string w 9998 _ _ _ hu]; simp⟩
      · cases ht
  · cases h
theorem tab_guard : Program.eqGuardType Go.Proofs.Try.prog (Program.depth Go.Proofs.Try.prog) TabT = false := by kernel_rfl
theorem tab_plain (lev n : Int) (d f g : List UInt8) : plainV (tabA lev n d f g) = some (.agg (tabV lev n d f g).toArray) := by
  have h : allVals (d.map byt ++ [S f, S g]) = some (d.map bytv ++ [.string ⟨f.toArray⟩, .string ⟨g.toArray⟩]) := by
    induction d with
    | nil => rfl
    | cons a c ih => simp [allVals, ih, byt]
  simp [plainV, allVals, h, tabV]
instance eqTab {lev n : Int} {d f g : List UInt8} {K : AV → Prop} [hd : Len32 d] : Stp (Do (aBin Go.Proofs.Try.prog .eql TabT (tabA lev n d f g) (tabA lev n d f g)) K) (K (B true)) := ⟨fun hK => by
  refine ⟨_, (aBin_plain (tab_plain _ _ _ _ _) (tab_plain _ _ _ _ _) fun xo yo w => ?_).2 rfl, hK⟩
  simp only [Sem.run_bind, run_eqGuard_agg w .eql TabT xo yo _ _ tab_guard, Result.andThen_ok, run_eql_struct, run_tab lev n d f g hd.len w]⟩
section tabld
variable {b : Nat} {t : TypeId} {lev n : Int} {d f g : List UInt8} {σ rest : Store} {put : Ent → Store} {k : AV → Store → Prop} {K : AV → Prop}
theorem tab_drop [hc : Len32 d] : (tabCs lev n d f g).drop 34 = [S f, S g] := by
  show (d.map byt ++ [S f, S g]).drop 32 = _
  rw [List.drop_left' (by simp [hc.len])]
theorem tab_drop1 [hc : Len32 d] : (tabCs lev n d f g).drop 35 = [S g] := by
  rw [show (35 : Nat) = 34 + 1 from rfl, ← List.drop_drop, tab_drop]; rfl
instance (priority := 75) ldT34 [hc : Len32 d] [hv : VarAt b σ t (tabCs lev n d f g) put rest] : Stp (Do (loadA false 1 (ptrAt b 34) σ) K) (K (S f)) := ⟨fun hK => by
  obtain ⟨σ1, σ2, e, _⟩ := hv.at_
  exact ⟨_, ⟨by decide, fun _ => rfl, rfl, t, _, by rw [e]; exact List.mem_append.2 (.inr (List.mem_cons_self ..)), by rw [tabCs_len]; show 34 + 1 ≤ 36; omega, by show _ = mkV false (((tabCs lev n d f g).drop 34).take 1); rw [tab_drop]; rfl⟩, hK⟩⟩
instance (priority := 75) ldT35 [hc : Len32 d] [hv : VarAt b σ t (tabCs lev n d f g) put rest] : Stp (Do (loadA false 1 (ptrAt b 35) σ) K) (K (S g)) := ⟨fun hK => by
  obtain ⟨σ1, σ2, e, _⟩ := hv.at_
  exact ⟨_, ⟨by decide, fun _ => rfl, rfl, t, _, by rw [e]; exact List.mem_append.2 (.inr (List.mem_cons_self ..)), by rw [tabCs_len]; show 35 + 1 ≤ 36; omega, by show _ = mkV false (((tabCs lev n d f g).drop 35).take 1); rw [tab_drop1]; rfl⟩, hK⟩⟩
instance (priority := 75) ldT2 [hc : Len32 d] [hv : VarAt b σ t (tabCs lev n d f g) put rest] : Stp (Do (loadA true 32 (ptrAt b 2) σ) K) (K (.agg (d.map byt))) := ⟨fun hK => by
  obtain ⟨σ1, σ2, e, _⟩ := hv.at_
  exact ⟨_, ⟨by decide, fun h => by (cases h), rfl, t, _, by rw [e]; exact List.mem_append.2 (.inr (List.mem_cons_self ..)), by rw [tabCs_len]; show 2 + 32 ≤ 36; omega, by
    show _ = mkV true (((d.map byt ++ [S f, S g])).take 32)
    rw [List.take_left' (by simp [hc.len])]; rfl⟩, hK⟩⟩
end tabld
/-! what is known of a table -/
section told
variable {a : AV} {m : SM} {b : Int} {l : List En} {lev : Int}
theorem descZ (h : ¬ (fit l = true ∧ 0 ≤ lev ∧ lev < 4)) (hl : l.length ≤ 1000000) : aPure Go.Proofs.Try.prog 15 [trA b, I .i64 lev, .lst 4 (l.map En.av) m] (.tuple [tabA 0 0 zeroD [] [], I .i64 1]) := by
  refine ACalls.fin (table_Describe.go ?_)
  unfold table_Describe.sh
  repeat' (first | with_reducible apply Stp.go | with_reducible refine imp fun _ => ?_ | (with_reducible refine hyp ?_ ?_; first | assumption | exact leftT_mem (by assumption)) | (with_reducible refine need ?_ ?_; first | trivial | omega | exact ⟨by assumption, by omega⟩ | (simp only [List.length_append, List.length_cons, List.length_nil, List.length_map, List.length_take, List.length_drop, List.length_replicate, List.length_set]; omega)) | (with_reducible refine fact ?_ ?_; first | trivial | exact ⟨rfl, rfl⟩ | kernel_rfl) | with_reducible refine choT (by assumption) ?_ | with_reducible refine choF (by assumption) ?_ | with_reducible refine choF' (by assumption) ?_ | (with_reducible refine altT ?_ ?_; first | omega | (simp only [List.length_append, List.length_cons, List.length_nil, List.length_map, List.length_take, List.length_drop, List.length_replicate, List.length_set]; omega)) | with_reducible refine altF ?_ | with_reducible refine all fun _ => ?_ | with_reducible refine both ?_ ?_ | (with_reducible refine choT ?_ ?_; omega) | (with_reducible refine choF ?_ ?_; omega) | with_reducible refine cho (fun _ => ?_) (fun _ => ?_))
  all_goals first
    | (exfalso; apply h; refine ⟨?_, ?_, ?_⟩ <;> first | assumption | omega)
    | (refine (stTab (lev := 0) (n := 0) (d := zeroD) (f := []) (g := [])).go ?_
       repeat' (first | with_reducible apply Stp.go | with_reducible refine imp fun _ => ?_ | (with_reducible refine hyp ?_ ?_; first | assumption | exact leftT_mem (by assumption)) | (with_reducible refine need ?_ ?_; first | trivial | omega | exact ⟨by assumption, by omega⟩ | (simp only [List.length_append, List.length_cons, List.length_nil, List.length_map, List.length_take, List.length_drop, List.length_replicate, List.length_set]; omega)) | (with_reducible refine fact ?_ ?_; first | trivial | exact ⟨rfl, rfl⟩ | kernel_rfl) | with_reducible refine choT (by assumption) ?_ | with_reducible refine choF (by assumption) ?_ | with_reducible refine choF' (by assumption) ?_ | (with_reducible refine altT ?_ ?_; first | omega | (simp only [List.length_append, List.length_cons, List.length_nil, List.length_map, List.length_take, List.length_drop, List.length_replicate, List.length_set]; omega)) | with_reducible refine altF ?_ | with_reducible refine all fun _ => ?_ | with_reducible refine both ?_ ?_ | (with_reducible refine choT ?_ ?_; omega) | (with_reducible refine choF ?_ ?_; omega) | with_reducible refine cho (fun _ => ?_) (fun _ => ?_))
       exact ⟨_, _, _, rfl, Sub.app_nil _, rfl, rfl⟩)
    | trace_state
end told
end Go.Ab

/- Layer 11: what is shown in any case; TableLevels, TableKnown. -/
set_option linter.unusedVariables false
set_option linter.unusedSimpArgs false
namespace Go.Ab
section told
variable {a : AV} {m : SM} {b : Int} {l : List En} {x : Int}
theorem desc11 [h : IsL a En.av 4 l m] {lev : Nat} (hx : x = (lev : Nat)) (hf : fit l = true) (hv : lev < 4) : PC Go.Proofs.Try.prog 15 [trA b, .val (.int .i64 x), a] True (.tuple [tabA x (l.length : Nat) (rootD b (l.map enB)) (l.getD 0 default).key (l.getD (l.length - 1) default).key, .val (.int .i64 0)]) := ⟨fun _ => by
  subst hx
  have h64 := (fit_right hf).1
  have hd : dFit lev l = true := by unfold dFit; rw [hf, decide_eq_true hv]; rfl
  have := (inferInstance : PC Go.Proofs.Try.prog 15 [trA b, .val (.int .i64 ((lev : Nat) : Int)), a] _ _).ct ⟨by omega, by omega⟩
  unfold dLev dCnt dRoot dFst dLst dErr at this
  simp only [if_pos hd] at this
  exact this⟩
theorem desc11Z [h : IsL a En.av 4 l m] (hf : ¬ (fit l = true ∧ 0 ≤ x ∧ x < 4)) (hl : l.length ≤ 1000000) : PC Go.Proofs.Try.prog 15 [trA b, .val (.int .i64 x), a] True (.tuple [tabA 0 0 zeroD [] [], .val (.int .i64 1)]) := ⟨fun _ => ⟨[trA b, I .i64 x, .lst 4 (l.map En.av) m], ⟨SubV.refl _, SubV.refl _, h.sub, trivial⟩, descZ hf hl⟩⟩
end told
def law11_shown.mark : Mark := ⟨fun t => Nat.beq t 10 || Nat.beq t 16 || Nat.beq t 64 || Nat.beq t 67, fun t => false, fun t => false, fun t => false, fun t => false⟩
def law11_shown.ann : Ann := ⟨fun n => [], fun n => none, fun n => none⟩
/-- 'marlstone/marlstonelaw11.shown' -/
def law11_shown.sh (σ : Store) (Q : AEnd → Store → Prop) : Prop :=
  Do (aLit [.val (.string ⟨#[]⟩), .val (.string ⟨#[]⟩), .val (.bool false), .val (.int .i64 0)] [(0, 1), (1, 1), (2, 1), (3, 1)] [(0, (.val (.string ⟨#[97]⟩))), (1, (.val (.string ⟨#[118]⟩))), (3, (.val (.int .i64 1)))]) fun t6 =>
  Do (aSlLit (mkE [.val (.string ⟨#[]⟩), .val (.string ⟨#[]⟩), .val (.bool false), .val (.int .i64 0)]) 4 1 [(0, t6)]) fun t7 =>
  Do (aPureC Go.Proofs.Try.prog 13 [t7]) fun t10 =>
  Do (aExt t10 0) fun t11 =>
  Do (aExt t10 1) fun t12 =>
  Do (aLit [.val (.int .i64 0)] [(0, 1)] [(0, (.val (.int .i64 256)))]) fun t14 =>
  Do (aPureC Go.Proofs.Try.prog 15 [t14, (.val (.int .i64 2)), t7]) fun t16 =>
  Do (aExt t16 0) fun t17 =>
  Do (aExt t16 1) fun t18 =>
  aNewVar 34 [.val (.int .i64 0), .val (.int .i64 0), .val (.int .u8 0), .val (.int .u8 0), .val (.int .u8 0), .val (.int .u8 0), .val (.int .u8 0), .val (.int .u8 0), .val (.int .u8 0), .val (.int .u8 0), .val (.int .u8 0), .val (.int .u8 0), .val (.int .u8 0), .val (.int .u8 0), .val (.int .u8 0), .val (.int .u8 0), .val (.int .u8 0), .val (.int .u8 0), .val (.int .u8 0), .val (.int .u8 0), .val (.int .u8 0), .val (.int .u8 0), .val (.int .u8 0), .val (.int .u8 0), .val (.int .u8 0), .val (.int .u8 0), .val (.int .u8 0), .val (.int .u8 0), .val (.int .u8 0), .val (.int .u8 0), .val (.int .u8 0), .val (.int .u8 0), .val (.int .u8 0), .val (.int .u8 0), .val (.string ⟨#[]⟩), .val (.string ⟨#[]⟩)] σ fun t4 σ =>
  storeA 36 t4 t17 σ fun u σ_1 =>
  Do (aBuiltin Go.Proofs.Try.prog .len #[25] [t11]) fun t20 =>
  Do (aBin Go.Proofs.Try.prog .eql 3 t20 (.val (.int .i64 30))) fun t21 =>
  Do (aGuard t21 true (aIs t12)) fun t23 =>
  Do (aGuard t21 true (aBin Go.Proofs.Try.prog .eql 26 t23 (.val (.int .i64 0)))) fun t24 =>
  Do (aPick t21 t24 (.val (.bool false))) fun t25 =>
  Do (aGuard t25 true (aIs t11)) fun t27 =>
  Do (aGuard t25 true (aSlice .slice 1 t27 none (some (.val (.int .i64 4))) none)) fun t28 =>
  Do (aGuard t25 true (aConvBS t28)) fun t29 =>
  Do (aGuard t25 true (aBin Go.Proofs.Try.prog .eql 9 t29 (.val (.string ⟨#[77, 65, 82, 76]⟩)))) fun t30 =>
  Do (aPick t25 t30 (.val (.bool false))) fun t31 =>
  Do (aGuard t31 true (aIs t11)) fun t33 =>
  Do (aGuard t31 true (aSlice .slice 1 t33 (some (.val (.int .i64 19))) none none)) fun t34 =>
  Do (aGuard t31 true (aConvBS t34)) fun t35 =>
  Do (aGuard t31 true (aBin Go.Proofs.Try.prog .eql 9 t35 (.val (.string ⟨#[1, 97, 15, 0, 0, 0, 1, 0, 0, 0, 19]⟩)))) fun t36 =>
  Do (aPick t31 t36 (.val (.bool false))) fun t37 =>
  Do (aGuard t37 true (aFieldAddr 0 1 t4)) fun t39 =>
  Do (aGuard t37 true (loadA false 1 t39 σ_1)) fun t40 =>
  Do (aGuard t37 true (aBin Go.Proofs.Try.prog .eql 3 t40 (.val (.int .i64 2)))) fun t41 =>
  Do (aPick t37 t41 (.val (.bool false))) fun t42 =>
  Do (aGuard t42 true (aFieldAddr 1 1 t4)) fun t44 =>
  Do (aGuard t42 true (loadA false 1 t44 σ_1)) fun t45 =>
  Do (aGuard t42 true (aBin Go.Proofs.Try.prog .eql 3 t45 (.val (.int .i64 1)))) fun t46 =>
  Do (aPick t42 t46 (.val (.bool false))) fun t47 =>
  Do (aGuard t47 true (aFieldAddr 34 1 t4)) fun t49 =>
  Do (aGuard t47 true (loadA false 1 t49 σ_1)) fun t50 =>
  Do (aGuard t47 true (aBin Go.Proofs.Try.prog .eql 9 t50 (.val (.string ⟨#[97]⟩)))) fun t51 =>
  Do (aPick t47 t51 (.val (.bool false))) fun t52 =>
  Do (aGuard t52 true (aFieldAddr 35 1 t4)) fun t54 =>
  Do (aGuard t52 true (loadA false 1 t54 σ_1)) fun t55 =>
  Do (aGuard t52 true (aBin Go.Proofs.Try.prog .eql 9 t55 (.val (.string ⟨#[97]⟩)))) fun t56 =>
  Do (aPick t52 t56 (.val (.bool false))) fun t57 =>
  Do (aGuard t57 true (aIs t18)) fun t59 =>
  Do (aGuard t57 true (aBin Go.Proofs.Try.prog .eql 26 t59 (.val (.int .i64 0)))) fun t60 =>
  Do (aPick t57 t60 (.val (.bool false))) fun t61 =>
  Do (aGuard t61 true (aIs t7)) fun t63 =>
  Do (aGuard t61 true (aPureC Go.Proofs.Try.prog 20 [t63])) fun t64 =>
  Do (aPick t61 t64 (.val (.bool false))) fun t65 =>
  Do (aGuard t65 true (aPureC Go.Proofs.Try.prog 20 [(.val (.slice none 0 0))])) fun t67 =>
  Do (aGuard t65 true (aUn Go.Proofs.Try.prog .not t67)) fun t68 =>
  Do (aPick t65 t68 (.val (.bool false))) fun t69 =>
  Q (.ret t69) σ_1
theorem law11_shown.eq (σ : Store) (Q : AEnd → Store → Prop) : vc (semOf Go.Proofs.Try.prog law11_shown.mark) Go.Proofs.Try.f11.ntmps law11_shown.ann (bodyOf Go.Proofs.Try.f11) (endK [.tmp 0] Q) (argFr []) σ = law11_shown.sh  σ Q := by kernel_rfl
theorem law11_shown.go {σ : Store} {Q : AEnd → Store → Prop} (h : law11_shown.sh  σ Q) : ACalls Go.Proofs.Try.prog 11 [] σ Q :=
  acalls_of_eq [.tmp 0] Go.Proofs.Try.func11 (by kernel_rfl) (by kernel_rfl) (by kernel_rfl) (by kernel_rfl) (law11_shown.eq  σ Q) h
theorem shown11_ok : aPure Go.Proofs.Try.prog 11 [] (B true) := by
  refine ACalls.fin (law11_shown.go ?_)
  unfold law11_shown.sh
  have e1 : fit [⟨[97], [118], false, 1⟩] = true := by decide
  have e0 : fit [] = false := by decide
  have ec : chunksE [⟨[97], [118], false, 1⟩] = [[⟨[97], [118], false, 1⟩]] := by decide
  have eb : blkB [⟨[97], [118], false, 1⟩] = [0, 1, 97, 0, 1, 1, 118, 0, 0, 0, 0, 0, 0, 0, 1] := by
    simp [blkB, e1, blockBytes, blk, encE, sharedAt, common, fixed, put_small]
  have e2 : tbB [⟨[97], [118], false, 1⟩] = [77, 65, 82, 76, 0, 1, 97, 0, 1, 1, 118, 0, 0, 0, 0, 0, 0, 0, 1, 1, 97, 15, 0, 0, 0, 1, 0, 0, 0, 19] := by
    simp [tbB, e1, ec, partsB, headB, blocksB, indexB, idxE, eb, lettersB, fixed, put_small]
  have e3 : tbE [⟨[97], [118], false, 1⟩] = 0 := by simp [tbE, e1]
  have iD : ∀ {a : AV} {m : SM} [h : IsL a En.av 4 [⟨[97], [118], false, 1⟩] m], PC Go.Proofs.Try.prog 15 [trA 256, .val (.int .i64 2), a] True _ := desc11 (b := 256) (lev := 2) rfl e1 (by decide)
  have iB : ∀ {a : AV} {m : SM} [h : IsL a En.av 4 [⟨[97], [118], false, 1⟩] m], PC Go.Proofs.Try.prog 13 [a] True (.tuple [.lst 1 (([77, 65, 82, 76, 0, 1, 97, 0, 1, 1, 118, 0, 0, 0, 0, 0, 0, 0, 1, 1, 97, 15, 0, 0, 0, 1, 0, 0, 0, 19] : List UInt8).map byt) .ro, .val (.int .i64 0)]) := fun {a m h} => ⟨fun _ => by
    have := (inferInstance : PC Go.Proofs.Try.prog 13 [a] _ _).ct (show ([⟨[97], [118], false, 1⟩] : List En).length ≤ 1000000000 by decide)
    rw [e2, e3] at this
    exact this⟩
  repeat' (first | with_reducible apply Stp.go | with_reducible refine imp fun _ => ?_ | (with_reducible refine hyp ?_ ?_; first | assumption | exact leftT_mem (by assumption)) | (with_reducible refine need ?_ ?_; first | trivial | omega | exact ⟨by assumption, by omega⟩ | (simp only [List.length_append, List.length_cons, List.length_nil, List.length_map, List.length_take, List.length_drop, List.length_replicate, List.length_set]; omega)) | (with_reducible refine fact ?_ ?_; first | trivial | exact ⟨rfl, rfl⟩ | kernel_rfl) | with_reducible refine choT (by assumption) ?_ | with_reducible refine choF (by assumption) ?_ | with_reducible refine choF' (by assumption) ?_ | (with_reducible refine altT ?_ ?_; first | omega | (simp only [List.length_append, List.length_cons, List.length_nil, List.length_map, List.length_take, List.length_drop, List.length_replicate, List.length_set]; omega)) | with_reducible refine altF ?_ | with_reducible refine all fun _ => ?_ | with_reducible refine both ?_ ?_ | (with_reducible refine choT ?_ ?_; omega) | (with_reducible refine choF ?_ ?_; omega) | with_reducible refine cho (fun _ => ?_) (fun _ => ?_))
  all_goals first
    | exact ⟨_, _, _, rfl, Sub.app_nil _, rfl, rfl⟩
    | contradiction
    | (exfalso; rename_i h; exact h rfl)
    | (exfalso; rename_i h; exact h (by decide))
    | trace_state
instance shown11I : PC Go.Proofs.Try.prog 11 [] True (B true) := ⟨fun _ => PC.of shown11_ok⟩
end Go.Ab

/- Layer 11: TableKnown. -/
set_option linter.unusedVariables false
set_option linter.unusedSimpArgs false
namespace Go.Ab
def law11_TableKnown.mark : Mark := ⟨fun t => Nat.beq t 16 || Nat.beq t 18 || Nat.beq t 25 || Nat.beq t 50 || Nat.beq t 62, fun t => false, fun t => false, fun t => Nat.beq t 61 || Nat.beq t 73 || Nat.beq t 81 || Nat.beq t 109 || Nat.beq t 121, fun t => false⟩
def law11_TableKnown.ann : Ann := ⟨fun n => bif Nat.beq n 9 then [0, 1, 7, 8, 9, 10, 11, 12] else [], fun n => none, fun n => bif Nat.beq n 14 then some [6] else none⟩
/-- 'marlstone/marlstonelaw11.TableKnown' -/
def law11_TableKnown.sh (a0 a1 a2 : AV) (σ : Store) (Q : AEnd → Store → Prop) : Prop :=
  Do (aPureC Go.Proofs.Try.prog 11 []) fun t16 =>
  Do (aPureC Go.Proofs.Try.prog 25 [a0]) fun t18 =>
  Do (aLit [.val (.int .i64 0)] [(0, 1)] [(0, a2)]) fun t20 =>
  aNewVar 38 [.val (.int .i64 0)] σ fun t8 σ =>
  storeA 1 t8 t20 σ fun u σ_1 =>
  Do (loadA true 1 t8 σ_1) fun t22 =>
  Do (aPureC Go.Proofs.Try.prog 15 [t22, a1, t18]) fun t25 =>
  Do (aExt t25 0) fun t26 =>
  Do (aExt t25 1) fun t27 =>
  aNewVar 34 [.val (.int .i64 0), .val (.int .i64 0), .val (.int .u8 0), .val (.int .u8 0), .val (.int .u8 0), .val (.int .u8 0), .val (.int .u8 0), .val (.int .u8 0), .val (.int .u8 0), .val (.int .u8 0), .val (.int .u8 0), .val (.int .u8 0), .val (.int .u8 0), .val (.int .u8 0), .val (.int .u8 0), .val (.int .u8 0), .val (.int .u8 0), .val (.int .u8 0), .val (.int .u8 0), .val (.int .u8 0), .val (.int .u8 0), .val (.int .u8 0), .val (.int .u8 0), .val (.int .u8 0), .val (.int .u8 0), .val (.int .u8 0), .val (.int .u8 0), .val (.int .u8 0), .val (.int .u8 0), .val (.int .u8 0), .val (.int .u8 0), .val (.int .u8 0), .val (.int .u8 0), .val (.int .u8 0), .val (.string ⟨#[]⟩), .val (.string ⟨#[]⟩)] σ_1 fun t9 σ_2 =>
  storeA 36 t9 t26 σ_2 fun u_1 σ_3 =>
  Do (aBuiltin Go.Proofs.Try.prog .len #[22] [t18]) fun t29 =>
  Do (aBin Go.Proofs.Try.prog .eql 3 t29 (.val (.int .i64 0))) fun t30 =>
  Do (aGuard t30 false (aIs a1)) fun t32 =>
  Do (aGuard t30 false (aBin Go.Proofs.Try.prog .lss 3 t32 (.val (.int .i64 0)))) fun t33 =>
  Do (aPick t30 (.val (.bool true)) t33) fun t34 =>
  Do (aGuard t34 false (aIs a1)) fun t36 =>
  Do (aGuard t34 false (aBin Go.Proofs.Try.prog .gtr 3 t36 (.val (.int .i64 3)))) fun t37 =>
  Do (aPick t34 (.val (.bool true)) t37) fun t38 =>
  aCond t38
    (Do (aGuard t16 true (aIs t27)) fun t41 =>
    Do (aGuard t16 true (aBin Go.Proofs.Try.prog .eql 26 t41 (.val (.int .i64 1)))) fun t42 =>
    Do (aPick t16 t42 (.val (.bool false))) fun t43 =>
    Do (aGuard t43 true (loadA true 36 t9 σ_3)) fun t45 =>
    Do (aGuard t43 true (aLit [.val (.int .i64 0), .val (.int .i64 0), .val (.int .u8 0), .val (.int .u8 0), .val (.int .u8 0), .val (.int .u8 0), .val (.int .u8 0), .val (.int .u8 0), .val (.int .u8 0), .val (.int .u8 0), .val (.int .u8 0), .val (.int .u8 0), .val (.int .u8 0), .val (.int .u8 0), .val (.int .u8 0), .val (.int .u8 0), .val (.int .u8 0), .val (.int .u8 0), .val (.int .u8 0), .val (.int .u8 0), .val (.int .u8 0), .val (.int .u8 0), .val (.int .u8 0), .val (.int .u8 0), .val (.int .u8 0), .val (.int .u8 0), .val (.int .u8 0), .val (.int .u8 0), .val (.int .u8 0), .val (.int .u8 0), .val (.int .u8 0), .val (.int .u8 0), .val (.int .u8 0), .val (.int .u8 0), .val (.string ⟨#[]⟩), .val (.string ⟨#[]⟩)] [(0, 1), (1, 1), (2, 32), (34, 1), (35, 1)] [])) fun t46 =>
    Do (aGuard t43 true (aBin Go.Proofs.Try.prog .eql 34 t45 t46)) fun t47 =>
    Do (aPick t43 t47 (.val (.bool false))) fun t48 =>
    Q (.ret t48) σ_3)
    (Do (aPureC Go.Proofs.Try.prog 17 [t18]) fun t50 =>
  aLoop (fun go vs σ_4 =>
    At vs 0 fun s0 => At vs 1 fun s1 => At vs 2 fun s7 => At vs 3 fun s8 => At vs 4 fun s9 => At vs 5 fun s10 => At vs 6 fun s11 => At vs 7 fun s12 => Do (aBuiltin Go.Proofs.Try.prog .len #[40] [s11]) fun t53 =>
    Do (aBin Go.Proofs.Try.prog .lss 3 s12 t53) fun t54 =>
    aCond t54
      (Do (aIndexAddr .slice 1 s11 s12) fun t60 =>
    Do (loadF false 1 t60) fun t61 =>
    Do (aPureC Go.Proofs.Try.prog 27 [t61]) fun t62 =>
    Do (aExt t62 0) fun t63 =>
    Do (aExt t62 1) fun t64 =>
    Do (aExt t62 2) fun t65 =>
    aNewVar 52 [.val (.string ⟨#[]⟩), .val (.string ⟨#[]⟩), .val (.bool false), .val (.int .i64 0)] σ_4 fun t13 σ_5 =>
    storeA 4 t13 t63 σ_5 fun u_2 σ_6 =>
    Do (aBin Go.Proofs.Try.prog .neq 26 t65 (.val (.int .i64 0))) fun t67 =>
    Do (aGuard t67 false (loadA true 4 t13 σ_6)) fun t69 =>
    Do (aGuard t67 false (aIs s0)) fun t70 =>
    Do (aGuard t67 false (aIs s12)) fun t71 =>
    Do (aGuard t67 false (aIndexAddr .slice 4 t70 t71)) fun t72 =>
    Do (aGuard t67 false (loadF true 4 t72)) fun t73 =>
    Do (aGuard t67 false (aBin Go.Proofs.Try.prog .neq 52 t69 t73)) fun t74 =>
    Do (aPick t67 (.val (.bool true)) t74) fun t75 =>
    Do (aGuard t75 false (aIs t64)) fun t77 =>
    Do (aGuard t75 false (aIs s11)) fun t78 =>
    Do (aGuard t75 false (aIs s12)) fun t79 =>
    Do (aGuard t75 false (aIndexAddr .slice 1 t78 t79)) fun t80 =>
    Do (aGuard t75 false (loadF false 1 t80)) fun t81 =>
    Do (aGuard t75 false (aBuiltin Go.Proofs.Try.prog .len #[25] [t81])) fun t82 =>
    Do (aGuard t75 false (aBin Go.Proofs.Try.prog .neq 3 t77 t82)) fun t83 =>
    Do (aPick t75 (.val (.bool true)) t83) fun t84 =>
    aCond t84
      (Q (.ret (.val (.bool false))) σ_6)
      (Do (aBin Go.Proofs.Try.prog .add 3 s12 (.val (.int .i64 1))) fun t56 =>
    go [s0, s1, s7, s8, s9, s10, s11, t56] σ_6))
      (aJoin (fun j =>
    Do (aGuard s7 true (aIs s10)) fun t87 =>
    Do (aGuard s7 true (aBin Go.Proofs.Try.prog .eql 26 t87 (.val (.int .i64 0)))) fun t88 =>
    Do (aPick s7 t88 (.val (.bool false))) fun t89 =>
    Do (aGuard t89 true (aFieldAddr 0 1 s9)) fun t91 =>
    Do (aGuard t89 true (aIs s1)) fun t93 =>
    Do (aGuard t89 true (loadA false 1 t91 σ_4)) fun t92 =>
    Do (aGuard t89 true (aBin Go.Proofs.Try.prog .eql 3 t92 t93)) fun t94 =>
    Do (aPick t89 t94 (.val (.bool false))) fun t95 =>
    Do (aGuard t95 true (aFieldAddr 1 1 s9)) fun t97 =>
    Do (aGuard t95 true (aIs s0)) fun t99 =>
    Do (aGuard t95 true (aBuiltin Go.Proofs.Try.prog .len #[22] [t99])) fun t100 =>
    Do (aGuard t95 true (loadA false 1 t97 σ_4)) fun t98 =>
    Do (aGuard t95 true (aBin Go.Proofs.Try.prog .eql 3 t98 t100)) fun t101 =>
    Do (aPick t95 t101 (.val (.bool false))) fun t102 =>
    Do (aGuard t102 true (aFieldAddr 34 1 s9)) fun t104 =>
    Do (aGuard t102 true (aIs s0)) fun t106 =>
    Do (aGuard t102 true (aIndexAddr .slice 4 t106 (.val (.int .i64 0)))) fun t107 =>
    Do (aGuard t102 true (aFieldAddr 0 1 t107)) fun t108 =>
    Do (aGuard t102 true (loadF false 1 t108)) fun t109 =>
    Do (aGuard t102 true (loadA false 1 t104 σ_4)) fun t105 =>
    Do (aGuard t102 true (aBin Go.Proofs.Try.prog .eql 9 t105 t109)) fun t110 =>
    Do (aPick t102 t110 (.val (.bool false))) fun t111 =>
    Do (aGuard t111 true (aFieldAddr 35 1 s9)) fun t113 =>
    Do (aGuard t111 true (aIs s0)) fun t115 =>
    Do (aGuard t111 true (aIs s0)) fun t116 =>
    Do (aGuard t111 true (aBuiltin Go.Proofs.Try.prog .len #[22] [t116])) fun t117 =>
    Do (aGuard t111 true (aBin Go.Proofs.Try.prog .sub 3 t117 (.val (.int .i64 1)))) fun t118 =>
    Do (aGuard t111 true (aIndexAddr .slice 4 t115 t118)) fun t119 =>
    Do (aGuard t111 true (aFieldAddr 0 1 t119)) fun t120 =>
    Do (aGuard t111 true (loadF false 1 t120)) fun t121 =>
    Do (aGuard t111 true (loadA false 1 t113 σ_4)) fun t114 =>
    Do (aGuard t111 true (aBin Go.Proofs.Try.prog .eql 9 t114 t121)) fun t122 =>
    Do (aPick t111 t122 (.val (.bool false))) fun t123 =>
    Do (aGuard t123 true (aFieldAddr 2 32 s9)) fun t125 =>
    Do (aGuard t123 true (loadA true 1 s8 σ_4)) fun t127 =>
    Do (aGuard t123 true (aIs s11)) fun t128 =>
    Both (Do (aGuard t123 true (loadA true 32 t125 σ_4)) fun t126 =>
    GEff t123 true (aCall Go.Proofs.Try.prog 28 [t127, t128] σ_4 (fun t129 σ_8 =>
      Do (aGuard t123 true (aBin Go.Proofs.Try.prog .eql 32 t126 t129)) fun t130 =>
    Do (aPick t123 t130 (.val (.bool false))) fun t131 =>
    j [t131] σ_8) (fun e σ_9 => Q (.pan e) σ_9))
    (Do (aGuard t123 true (aBin Go.Proofs.Try.prog .eql 32 t126 (.val Go.undef))) fun t130_1 =>
    Do (aPick t123 t130_1 (.val (.bool false))) fun t131_1 =>
    j [t131_1] σ_4)) (GEff t123 true (aCall Go.Proofs.Try.prog 28 [t127, t128] σ_4 (fun t129_1 σ_10 =>
      Do (aGuard t123 true (loadA true 32 t125 σ_10)) fun t126_1 =>
    Do (aGuard t123 true (aBin Go.Proofs.Try.prog .eql 32 t126_1 t129_1)) fun t130_2 =>
    Do (aPick t123 t130_2 (.val (.bool false))) fun t131_2 =>
    j [t131_2] σ_10) (fun e_1 σ_11 => Q (.pan e_1) σ_11))
    (Do (aGuard t123 true (loadA true 32 t125 σ_4)) fun t126_2 =>
    Do (aGuard t123 true (aBin Go.Proofs.Try.prog .eql 32 t126_2 (.val Go.undef))) fun t130_3 =>
    Do (aPick t123 t130_3 (.val (.bool false))) fun t131_3 =>
    j [t131_3] σ_4))) fun vs_1 σ_7 =>
  At vs_1 0 fun s6 => Q (.ret s6) σ_7))
    [t18, a1, t16, t8, t9, t27, t50, (.val (.int .i64 0))] σ_3)
theorem law11_TableKnown.eq (a0 a1 a2 : AV) (σ : Store) (Q : AEnd → Store → Prop) : vc (semOf Go.Proofs.Try.prog law11_TableKnown.mark) Go.Proofs.Try.f8.ntmps law11_TableKnown.ann (bodyOf Go.Proofs.Try.f8) (endK [.tmp 6] Q) (argFr [a0, a1, a2]) σ = law11_TableKnown.sh a0 a1 a2 σ Q := by kernel_rfl
theorem law11_TableKnown.go {a0 a1 a2 : AV} {σ : Store} {Q : AEnd → Store → Prop} (h : law11_TableKnown.sh a0 a1 a2 σ Q) : ACalls Go.Proofs.Try.prog 8 [a0, a1, a2] σ Q :=
  acalls_of_eq [.tmp 6] Go.Proofs.Try.func8 (by kernel_rfl) (by kernel_rfl) (by kernel_rfl) (by kernel_rfl) (law11_TableKnown.eq a0 a1 a2 σ Q) h
theorem TableKnown_ok (l : List En) (m : SM) (x b : Int) (hl : l.length ≤ 100000000000000) (hx : (Lit.int .i64 x).wf = true) (hb : (Lit.int .i64 b).wf = true) : aPure Go.Proofs.Try.prog 8 [.lst 4 (l.map En.av) m, I .i64 x, I .i64 b] (B true) := by
  refine ACalls.fin (law11_TableKnown.go ?_)
  unfold law11_TableKnown.sh
  obtain ⟨L, hL⟩ : ∃ L, L = fitL ((l.take 70).map (cutE 130 1030)) := ⟨_, rfl⟩
  have h64 : L.length ≤ 64 := by rw [hL]; unfold fitL; simp; omega
  have iF : PC Go.Proofs.Try.prog 25 [.lst 4 (l.map En.av) m] True (.lst 4 (L.map En.av) .ro) := ⟨fun _ => by rw [hL]; exact PC.of (fit11_ok l m hl)⟩
  by_cases h0 : L.length = 0 ∨ x < 0 ∨ 3 < x
  · have hf : ¬ (fit L = true ∧ 0 ≤ x ∧ x < 4) := fun h => by have := (fit_right h.1).2.1; omega
    have iD : ∀ {a : AV} {m : SM} [h : IsL a En.av 4 L m], PC Go.Proofs.Try.prog 15 [trA b, .val (.int .i64 x), a] True _ := fun {a m h} => desc11Z hf (by omega)
    repeat' (first | with_reducible apply Stp.go | with_reducible refine imp fun _ => ?_ | (with_reducible refine hyp ?_ ?_; first | assumption | exact leftT_mem (by assumption)) | (with_reducible refine need ?_ ?_; first | trivial | omega | exact ⟨by assumption, by omega⟩ | (simp only [List.length_append, List.length_cons, List.length_nil, List.length_map, List.length_take, List.length_drop, List.length_replicate, List.length_set]; omega)) | (with_reducible refine fact ?_ ?_; first | trivial | exact ⟨rfl, rfl⟩ | kernel_rfl) | with_reducible refine choT (by assumption) ?_ | with_reducible refine choF (by assumption) ?_ | with_reducible refine choF' (by assumption) ?_ | (with_reducible refine altT ?_ ?_; first | omega | (simp only [List.length_append, List.length_cons, List.length_nil, List.length_map, List.length_take, List.length_drop, List.length_replicate, List.length_set]; omega)) | with_reducible refine altF ?_ | with_reducible refine all fun _ => ?_ | with_reducible refine both ?_ ?_ | (with_reducible refine choT ?_ ?_; omega) | (with_reducible refine choF ?_ ?_; omega) | with_reducible refine cho (fun _ => ?_) (fun _ => ?_))
    all_goals first
      | (exfalso; omega)
      | (refine (eqTab (lev := 0) (n := 0) (d := zeroD) (f := []) (g := [])).go ?_
         repeat' (first | with_reducible apply Stp.go | with_reducible refine imp fun _ => ?_ | (with_reducible refine hyp ?_ ?_; first | assumption | exact leftT_mem (by assumption)) | (with_reducible refine need ?_ ?_; first | trivial | omega | exact ⟨by assumption, by omega⟩ | (simp only [List.length_append, List.length_cons, List.length_nil, List.length_map, List.length_take, List.length_drop, List.length_replicate, List.length_set]; omega)) | (with_reducible refine fact ?_ ?_; first | trivial | exact ⟨rfl, rfl⟩ | kernel_rfl) | with_reducible refine choT (by assumption) ?_ | with_reducible refine choF (by assumption) ?_ | with_reducible refine choF' (by assumption) ?_ | (with_reducible refine altT ?_ ?_; first | omega | (simp only [List.length_append, List.length_cons, List.length_nil, List.length_map, List.length_take, List.length_drop, List.length_replicate, List.length_set]; omega)) | with_reducible refine altF ?_ | with_reducible refine all fun _ => ?_ | with_reducible refine both ?_ ?_ | (with_reducible refine choT ?_ ?_; omega) | (with_reducible refine choF ?_ ?_; omega) | with_reducible refine cho (fun _ => ?_) (fun _ => ?_))
         exact ⟨_, _, _, rfl, Sub.app_nil _, rfl, rfl⟩)
      | trace_state
  · have hf : fit L = true := by rw [hL] at h0 ⊢; exact fitL_fit (by omega)
    obtain ⟨lev, rfl⟩ : ∃ lev : Nat, x = (lev : Nat) := ⟨x.toNat, by omega⟩
    have iD : ∀ {a : AV} {m : SM} [h : IsL a En.av 4 L m], PC Go.Proofs.Try.prog 15 [trA b, .val (.int .i64 ((lev : Nat) : Int)), a] True _ := desc11 rfl hf (by omega)
    have hr := (fit_right hf).2.2.2
    have hLf : (L.map enB).length = L.length := by simp
    have hlen : ∀ i, ((L.map enB).getD i default).length ≤ 100000 := fun i => by
      by_cases h : i < L.length
      · rw [List.getD_eq_getElem?_getD, List.getElem?_map, List.getElem?_eq_getElem h]
        have := enB_length L[i]
        simp only [Option.map_some, Option.getD_some]
        omega
      · rw [List.getD_eq_getElem?_getD, List.getElem?_eq_none (by simpa using Nat.le_of_not_lt h)]
        exact Nat.zero_le _
    have hpa : ∀ i, i < L.length → parseE ((L.map enB).getD i default) = some (L.getD i default, ((L.map enB).getD i default).length) := fun i h => by
      have e : (L.map enB).getD i default = enB (L.getD i default) := by
        rw [List.getD_eq_getElem?_getD, List.getD_eq_getElem?_getD, List.getElem?_map, List.getElem?_eq_getElem h]; rfl
      have := parse_put (L.getD i default) (hr i h) []
      rw [List.append_nil, ← enB_right (hr i h)] at this
      rw [e]; exact this
    have hbl : (L.map enB).length ≤ 1000000 ∧ ∀ b ∈ L.map enB, b.length ≤ 100000000000000 := ⟨by omega, fun b h => by
      obtain ⟨e, _, rfl⟩ := List.mem_map.1 h
      have := enB_length e
      omega⟩
    repeat' (first | with_reducible apply Stp.go | with_reducible refine imp fun _ => ?_ | (with_reducible refine hyp ?_ ?_; first | assumption | exact leftT_mem (by assumption)) | (with_reducible refine need ?_ ?_; first | trivial | omega | exact ⟨by assumption, by omega⟩ | (simp only [List.length_append, List.length_cons, List.length_nil, List.length_map, List.length_take, List.length_drop, List.length_replicate, List.length_set]; omega)) | (with_reducible refine fact ?_ ?_; first | trivial | exact ⟨rfl, rfl⟩ | kernel_rfl) | with_reducible refine choT (by assumption) ?_ | with_reducible refine choF (by assumption) ?_ | with_reducible refine choF' (by assumption) ?_ | (with_reducible refine altT ?_ ?_; first | omega | (simp only [List.length_append, List.length_cons, List.length_nil, List.length_map, List.length_take, List.length_drop, List.length_replicate, List.length_set]; omega)) | with_reducible refine altF ?_ | with_reducible refine all fun _ => ?_ | with_reducible refine both ?_ ?_ | (with_reducible refine choT ?_ ?_; omega) | (with_reducible refine choF ?_ ?_; omega) | with_reducible refine cho (fun _ => ?_) (fun _ => ?_))
    rename_i vt vx
    refine loopI (β := Nat) (fun i => i ≤ L.length) (fun i => [.lst 4 (L.map En.av) .ro, I .i64 (lev : Nat), B true, ptrAt vt 0, ptrAt vx 0, I .i64 0, .lst 1 ((L.map enB).map bl) .ro, I .i64 (i : Nat)])
      (fun _ => [.var vx TabT (tabCs (lev : Nat) (L.length : Nat) (rootD b (L.map enB)) (L.getD 0 default).key (L.getD (L.length - 1) default).key), .var vt 38 [I .i64 b]]) (fun i => L.length - i) 0 (Nat.zero_le _) (Sub.refl _ _) ?_
    intro i hi
    by_cases hlt : i < L.length
    · have iP : PC Go.Proofs.Try.prog 27 [.lst 1 (((L.map enB).getD i default).map byt) .ro] True (.tuple [(L.getD i default).av, I .i64 (((L.map enB).getD i default).length : Nat), .val (.int .i64 0)]) := ⟨fun _ => by
        have := PC.of (entry_Parse_ok ((L.map enB).getD i default) .ro (by have := hlen i; omega))
        simp only [parseV, parseN, parseX, hpa i hlt] at this
        exact this⟩
      have hli := hlen i
      repeat' (first | with_reducible apply Stp.go | with_reducible refine imp fun _ => ?_ | (with_reducible refine hyp ?_ ?_; first | assumption | exact leftT_mem (by assumption)) | (with_reducible refine need ?_ ?_; first | trivial | omega | exact ⟨by assumption, by omega⟩ | (simp only [List.length_append, List.length_cons, List.length_nil, List.length_map, List.length_take, List.length_drop, List.length_replicate, List.length_set]; omega)) | (with_reducible refine fact ?_ ?_; first | trivial | exact ⟨rfl, rfl⟩ | kernel_rfl) | with_reducible refine choT (by assumption) ?_ | with_reducible refine choF (by assumption) ?_ | with_reducible refine choF' (by assumption) ?_ | (with_reducible refine altT ?_ ?_; first | omega | (simp only [List.length_append, List.length_cons, List.length_nil, List.length_map, List.length_take, List.length_drop, List.length_replicate, List.length_set]; omega)) | with_reducible refine altF ?_ | with_reducible refine all fun _ => ?_ | with_reducible refine both ?_ ?_ | (with_reducible refine choT ?_ ?_; omega) | (with_reducible refine choF ?_ ?_; omega) | with_reducible refine cho (fun _ => ?_) (fun _ => ?_))
      all_goals first
        | exact again (i + 1) (by omega) (by omega) (Sub.drop_ (List.sublist_cons_self _ _) _)
        | contradiction
        | (exfalso; rename_i h; exact h rfl)
        | trace_state
    · have e : i = L.length := by omega
      subst e
      have hl1 : 0 < L.length := by omega
      have h32 : (rootD b (L.map enB)).length = 32 := Len32.len
      repeat' (first | with_reducible apply Stp.go | with_reducible refine imp fun _ => ?_ | (with_reducible refine hyp ?_ ?_; first | assumption | exact leftT_mem (by assumption)) | (with_reducible refine need ?_ ?_; first | trivial | omega | exact ⟨by assumption, by omega⟩ | (simp only [List.length_append, List.length_cons, List.length_nil, List.length_map, List.length_take, List.length_drop, List.length_replicate, List.length_set]; omega)) | (with_reducible refine fact ?_ ?_; first | trivial | exact ⟨rfl, rfl⟩ | kernel_rfl) | with_reducible refine choT (by assumption) ?_ | with_reducible refine choF (by assumption) ?_ | with_reducible refine choF' (by assumption) ?_ | (with_reducible refine altT ?_ ?_; first | omega | (simp only [List.length_append, List.length_cons, List.length_nil, List.length_map, List.length_take, List.length_drop, List.length_replicate, List.length_set]; omega)) | with_reducible refine altF ?_ | with_reducible refine all fun _ => ?_ | with_reducible refine both ?_ ?_ | (with_reducible refine choT ?_ ?_; omega) | (with_reducible refine choF ?_ ?_; omega) | with_reducible refine cho (fun _ => ?_) (fun _ => ?_))
      refine joinI (β := Unit) (fun _ => True) (fun _ => [B true]) (fun _ => []) ?_ ?_
      · repeat' (first | with_reducible apply Stp.go | with_reducible refine imp fun _ => ?_ | (with_reducible refine hyp ?_ ?_; first | assumption | exact leftT_mem (by assumption)) | (with_reducible refine need ?_ ?_; first | trivial | omega | exact ⟨by assumption, by omega⟩ | (simp only [List.length_append, List.length_cons, List.length_nil, List.length_map, List.length_take, List.length_drop, List.length_replicate, List.length_set]; omega)) | (with_reducible refine fact ?_ ?_; first | trivial | exact ⟨rfl, rfl⟩ | kernel_rfl) | with_reducible refine choT (by assumption) ?_ | with_reducible refine choF (by assumption) ?_ | with_reducible refine choF' (by assumption) ?_ | (with_reducible refine altT ?_ ?_; first | omega | (simp only [List.length_append, List.length_cons, List.length_nil, List.length_map, List.length_take, List.length_drop, List.length_replicate, List.length_set]; omega)) | with_reducible refine altF ?_ | with_reducible refine all fun _ => ?_ | with_reducible refine both ?_ ?_ | (with_reducible refine choT ?_ ?_; omega) | (with_reducible refine choF ?_ ?_; omega) | with_reducible refine cho (fun _ => ?_) (fun _ => ?_))
        all_goals first
          | exact meet () trivial (Sub.app_nil _)
          | (rw [decide_eq_true rfl]; exact meet () trivial (Sub.app_nil _))
          | contradiction
          | (exfalso; rename_i h; exact h rfl)
          | trace_state
      · rintro _ _
        dsimp only
        repeat' (first | with_reducible apply Stp.go | with_reducible refine imp fun _ => ?_ | (with_reducible refine hyp ?_ ?_; first | assumption | exact leftT_mem (by assumption)) | (with_reducible refine need ?_ ?_; first | trivial | omega | exact ⟨by assumption, by omega⟩ | (simp only [List.length_append, List.length_cons, List.length_nil, List.length_map, List.length_take, List.length_drop, List.length_replicate, List.length_set]; omega)) | (with_reducible refine fact ?_ ?_; first | trivial | exact ⟨rfl, rfl⟩ | kernel_rfl) | with_reducible refine choT (by assumption) ?_ | with_reducible refine choF (by assumption) ?_ | with_reducible refine choF' (by assumption) ?_ | (with_reducible refine altT ?_ ?_; first | omega | (simp only [List.length_append, List.length_cons, List.length_nil, List.length_map, List.length_take, List.length_drop, List.length_replicate, List.length_set]; omega)) | with_reducible refine altF ?_ | with_reducible refine all fun _ => ?_ | with_reducible refine both ?_ ?_ | (with_reducible refine choT ?_ ?_; omega) | (with_reducible refine choF ?_ ?_; omega) | with_reducible refine cho (fun _ => ?_) (fun _ => ?_))
        exact ⟨_, _, _, rfl, Sub.refl _ _, rfl, rfl⟩
end Go.Ab
