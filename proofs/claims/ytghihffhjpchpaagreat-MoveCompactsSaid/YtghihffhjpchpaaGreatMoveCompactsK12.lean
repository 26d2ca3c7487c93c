/- The texts that this claim needs, part 12: a logic over abstract values, its steps, what the functions do. No condition of its own. -/
import Derived.Test.YtghihffhjpchpaaGreatMoveCompactsK11
set_option linter.unusedVariables false
set_option linter.unusedSimpArgs false
namespace Go.Ab
open Go.Proofs
theorem Sub.cut {n sz : Nat} {E : TypeId} {v : Value} {l : List AV} {σ : Store} (h0 : 0 < l.length) (hn : n ≤ l.length) (pre post : List AV) : Sub (.row v E sz l 0 :: σ) (pre ++ .sub v sz 0 n :: post) (.row (reV v n) E sz (l.take n) 0 :: σ) (pre ++ .own (reV v n) n :: post) := by
 intro R w vs hv hs
 obtain ⟨ws, hr, hone, hown, hz0, hsz, hcc⟩ := row_cells hs (v := v) (E := E) (sz := sz) (l := l) (fl := 0) List.mem_cons_self
 have hrow := hs.ents (.row v E sz l 0) List.mem_cons_self
 rcases hown.2 with ⟨rfl, h00⟩ | ⟨g, cap, cur, rfl, hb0, ⟨fz, hfz, hh⟩, hle, hcm, hcs, htk⟩
 ·omega
 refine ⟨R, ⟨?_, fun j u x hu hx => ?_⟩, ⟨hs.ro, fun e he => ?_, ?_⟩, ?_⟩
 ·rw [hv.1]; simp
 ·rcases Nat.lt_trichotomy j pre.length with h | h | h
  ·exact hv.2 j u x (by rw [List.getElem?_append_left h] at hu ⊢; exact hu) hx
  ·subst h
   simp at hu
   subst hu
   have hy := (hv.2 pre.length (.sub (.slice (some ⟨g, 0, none⟩) l.length cap) sz 0 n) x (by simp) hx).sub_inv
   rcases hy with ⟨h1, _⟩ | ⟨g', n0, cap', p, h1, h2, hp, rfl⟩
   ·cases h1
   ·simp only [Value.slice.injEq, Option.some.injEq, Addr.mk.injEq, and_true, true_and] at h1
    obtain ⟨rfl, rfl, rfl⟩ := h1
    have e : p = ⟨g, 0, none⟩ := by rw [hp (by omega)]; simp
    subst e
    exact .own (.inr ⟨g, cap, rfl, by omega⟩)
  ·refine hv.2 j u x ?_ hx
   rw [List.getElem?_append_right (by omega)] at hu ⊢
   cases hn : j - pre.length with
   | zero => omega
   | succ n => rw [hn] at hu; simpa using hu
 ·rcases List.mem_cons.1 he with rfl | he
  ·obtain ⟨a1, a2, ⟨vs2, a3, a4, a5⟩, a6, a7⟩ := hrow
   have hlt : (l.take n).length = n := by rw [List.length_take]; omega
   refine ⟨a1, fun e he => a2 e (List.mem_of_mem_take he), ⟨ws.take (n * sz), ⟨?_, .inr ⟨g, cap, cur, by rw [hlt]; rfl, Nat.zero_le _, ⟨fz, hfz, hh⟩, by omega, hcm, hcs, ?_⟩⟩, ?_, fun x hx => hone x (List.mem_of_mem_take hx)⟩, by omega, fun a x ha hb => ?_⟩
   ·rw [hlt, List.length_take, hown.1]
    have := Nat.mul_le_mul_right sz hn
    omega
   ·rw [hlt, ← htk, List.take_take, Nat.min_eq_left (Nat.mul_le_mul_right _ hn)]
   ·rw [flat_take hsz]
    exact hr.take _
   ·have := (a7 a x ha hb).1
    omega
  ·exact hs.ents e (List.mem_cons_of_mem _ he)
 ·have := hs.apart
  rw [List.pairwise_cons] at this ⊢
  exact ⟨fun e he k hk => this.1 e he k hk, this.2⟩
 ·exact ⟨fun _ _ h => h, rfl, rfl, rfl, Nat.le_refl _, fun _ _ _ => rfl, fun k hk => .inl hk, fun a v h => .inl h⟩
theorem lowS_if (a b : List UInt8) : lowS a b = if (lt a b || decide (a = b)) = true then a else b := by
 unfold lowS
 by_cases h : lt b a = true
 ·rw [if_pos h, lt_asymm h, decide_eq_false (lt_ne h).symm]; rfl
 ·rw [if_neg h]
  by_cases h2 : lt a b = true
  ·rw [h2]; rfl
  ·rw [lt_tri (Bool.eq_false_iff.2 h2) (Bool.eq_false_iff.2 h), decide_eq_true rfl]; simp
theorem highS_if (a b : List UInt8) : highS a b = if (!lt a b) = true then a else b := by
 unfold highS
 cases lt a b <;> rfl
section mm
variable {P : Program} {t t' : TypeId} {K : AV → Prop}
theorem r_minS {a b : List UInt8} {u : AV} : aBuiltin P .min #[t, t'] [.val (.string ⟨a.toArray⟩), .val (.string ⟨b.toArray⟩)] u ↔ u = .val (.string ⟨(lowS a b).toArray⟩) :=
 aBuiltin_vals (vs := [_, _]) trivial fun ty cs w => by
  rw [lowS_if]
  by_cases h : (lt a b || decide (a = b)) = true
  ·rw [if_pos h]
   simp only [Bool.or_eq_true, decide_eq_true_eq] at h
   simp [builtin, Builtin.min_, Builtin.min2, Op.stringOp, asBool, h]
  ·rw [if_neg h]
   simp only [Bool.or_eq_true, decide_eq_true_eq, not_or] at h
   simp [builtin, Builtin.min_, Builtin.min2, Op.stringOp, asBool, h]
theorem r_maxS {a b : List UInt8} {u : AV} : aBuiltin P .max #[t, t'] [.val (.string ⟨a.toArray⟩), .val (.string ⟨b.toArray⟩)] u ↔ u = .val (.string ⟨(highS a b).toArray⟩) :=
 aBuiltin_vals (vs := [_, _]) trivial fun ty cs w => by
  rw [highS_if]
  cases h : lt a b
  ·simp [builtin, Builtin.max_, Builtin.max2, Op.stringOp, asBool, h]
  ·simp [builtin, Builtin.max_, Builtin.max2, Op.stringOp, asBool, h]
instance minS (a b : List UInt8) : Stp (Do (aBuiltin P .min #[t, t'] [.val (.string ⟨a.toArray⟩), .val (.string ⟨b.toArray⟩)]) K) (K (S (lowS a b))) := ⟨fun hK => ⟨_, r_minS.2 rfl, hK⟩⟩
instance maxS (a b : List UInt8) : Stp (Do (aBuiltin P .max #[t, t'] [.val (.string ⟨a.toArray⟩), .val (.string ⟨b.toArray⟩)]) K) (K (S (highS a b))) := ⟨fun hK => ⟨_, r_maxS.2 rfl, hK⟩⟩
end mm
namespace Fc
instance part3 {a b c : AV} : Part [a, b, c] 0 3 [a, b, c] := ⟨rfl, Nat.le_refl _, by decide⟩
end Fc
def pick_span_over.mark : Mark := ⟨fun t => Nat.beq t 7, fun t => false, fun t => Nat.beq t 2 || Nat.beq t 3, fun t => Nat.beq t 5 || Nat.beq t 6 || Nat.beq t 10 || Nat.beq t 12 || Nat.beq t 17 || Nat.beq t 19, fun t => false⟩
def pick_span_over.ann : Ann := ⟨fun n => [], fun n => none, fun n => none⟩
def pick_span_over.sh (a0 a1 : AV) (σ : Store) (Q : AEnd → Store → Prop) : Prop :=
 Do (aFreeze ((a0 : AV)).cells) fun t2 =>
 Do (aFreeze ((a1 : AV)).cells) fun t3 =>
 Do (loadF true 3 t2) fun t5 =>
 Do (loadF true 36 t3) fun t6 =>
 Do (aPureC Tryz.prog 61 [t5, t6]) fun t7 =>
 Do (aGuard t7 true (aFieldAddr 34 1 t3)) fun t9 =>
 Do (aGuard t7 true (loadF false 1 t9)) fun t10 =>
 Do (aGuard t7 true (aFieldAddr 2 1 t2)) fun t11 =>
 Do (aGuard t7 true (loadF false 1 t11)) fun t12 =>
 Do (aGuard t7 true (aBin Tryz.prog .leq 9 t10 t12)) fun t13 =>
 Do (aPick t7 t13 (.val (.bool false))) fun t14 =>
 Do (aGuard t14 true (aFieldAddr 35 1 t3)) fun t16 =>
 Do (aGuard t14 true (loadF false 1 t16)) fun t17 =>
 Do (aGuard t14 true (aFieldAddr 1 1 t2)) fun t18 =>
 Do (aGuard t14 true (loadF false 1 t18)) fun t19 =>
 Do (aGuard t14 true (aBin Tryz.prog .geq 9 t17 t19)) fun t20 =>
 Do (aPick t14 t20 (.val (.bool false))) fun t21 =>
 Q (.ret t21) σ
theorem pick_span_over.eq (a0 a1 : AV) (σ : Store) (Q : AEnd → Store → Prop) : vc (semOf Tryz.prog pick_span_over.mark) Tryz.f63.ntmps pick_span_over.ann (bodyOf Tryz.f63) (endK [.tmp 4] Q) (argFr [a0, a1]) σ = pick_span_over.sh a0 a1 σ Q := by kernel_rfl
theorem pick_span_over.go {a0 a1 : AV} {σ : Store} {Q : AEnd → Store → Prop} (h : pick_span_over.sh a0 a1 σ Q) : ACalls Tryz.prog 63 [a0, a1] σ Q :=
 acalls_of_eq [.tmp 4] Tryz.func63 (by kernel_rfl) (by kernel_rfl) (by kernel_rfl) (by kernel_rfl) (pick_span_over.eq a0 a1 σ Q) h
theorem over_ok (k : Int) (f g : List UInt8) (x : TabR) : aPure Tryz.prog 63 [.agg [I .i64 k, S f, S g], tbF x] (B (overP k f g x)) := by
 have iO : PC Tryz.prog 61 [.agg [I .i64 k, S f, S g], tbF x] True (B (onP k x)) := ⟨fun _ => PC.of (on_ok k f g x)⟩
 refine pick_span_over.go ?_
 unfold pick_span_over.sh
 unfold overP
 cases h1 : onP k x
 ·repeat' (with_reducible first|apply Stp.go|refine imp fun _=>?_|refine zq ?_|refine zt ?_|refine zf ?_|refine zg ?_|refine za ?_|refine altF ?_|refine all fun _=>?_|refine both ?_ ?_|refine zu ?_|refine zv ?_|refine cho (fun _=>?_) fun _=>?_|refine zw ?_)
  exact ⟨rfl, rfl⟩
 ·have e := lt_flip2 g x.fst
  by_cases h2 : (lt x.fst g || decide (x.fst = g)) = true
  ·rw [h2] at e
   repeat' (with_reducible first|apply Stp.go|refine imp fun _=>?_|refine zq ?_|refine zt ?_|refine zf ?_|refine zg ?_|refine za ?_|refine altF ?_|refine all fun _=>?_|refine both ?_ ?_|refine zu ?_|refine zv ?_|refine cho (fun _=>?_) fun _=>?_|refine zw ?_)
   rw [e]
   exact ⟨rfl, rfl⟩
  ·rw [Bool.eq_false_iff.2 h2] at e
   repeat' (with_reducible first|apply Stp.go|refine imp fun _=>?_|refine zq ?_|refine zt ?_|refine zf ?_|refine zg ?_|refine za ?_|refine altF ?_|refine all fun _=>?_|refine both ?_ ?_|refine zu ?_|refine zv ?_|refine cho (fun _=>?_) fun _=>?_|refine zw ?_)
   rw [e]
   exact ⟨rfl, rfl⟩
theorem places_own (l : List TabR) (m : SM) (g : FuncId) (r : AV) (p : TabR → Bool) (hl : l.length ≤ 1000000) (hg : ∀ x : TabR, aPure Tryz.prog g [r, tbF x] (B (p x))) : ACalls Tryz.prog 60 [.lst 36 (l.map tbF) m, .fn (.func g) [r] []] [] (fun x σ' => ∃ v, x = .ret (.own v (posT p l l.length).length) ∧ σ' = [.row v InT 1 ((posT p l l.length).map it) 0]) := by
 refine ACalls.fin (pick_places.go ?_)
 unfold pick_places.sh
 repeat' (with_reducible first|apply Stp.go|refine imp fun _=>?_|refine zq ?_|refine zt ?_|refine zf ?_|refine zg ?_|refine za ?_|refine altF ?_|refine all fun _=>?_|refine both ?_ ?_|refine zu ?_|refine zv ?_|refine cho (fun _=>?_) fun _=>?_|refine zw ?_)
 refine loopI (β := Nat × Value) (fun x => x.1 ≤ l.length) (fun x => [.fn (.func g) [r] [], .own x.2 (posT p l x.1).length, .lst 36 (l.map tbF) m, I .i64 (l.length : Nat), I .i64 (x.1 : Nat)]) (fun x => [.row x.2 InT 1 ((posT p l x.1).map it) 0]) (fun x => l.length - x.1) (0, .slice none 0 0) (Nat.zero_le _) (Sub.nil_own InT (sz := 1) (by decide) _ [_] [_, _, _]) ?_
 rintro ⟨i, v⟩ h1
 dsimp only at h1 ⊢
 have hpl := posT_len p l i
 by_cases hi : i < l.length
 ·have hs := posT_succ p l i
  have hpc : ∀ x : TabR, PC Tryz.prog g ([r] ++ [tbF x] ++ []) True (B (p x)) := fun x => ⟨fun _ => PC.of (hg x)⟩
  have hpi := hpc (l.getD i default)
  by_cases hp : p (l.getD i default) = true
  ·rw [if_pos hp] at hs
   repeat' (with_reducible first|apply Stp.go|refine imp fun _=>?_|refine zq ?_|refine zt ?_|refine zf ?_|refine zg ?_|refine za ?_|refine altF ?_|refine all fun _=>?_|refine both ?_ ?_|refine zu ?_|refine zv ?_|refine cho (fun _=>?_) fun _=>?_|refine zw ?_)
   rename_i w
   exact again (i + 1, w) (by dsimp only; omega) (by dsimp only; omega) (by dsimp only; rw [hs]; exact Sub.drop_ (.cons _ (.cons_cons _ .slnil)) _)
  ·rw [if_neg hp, List.append_nil] at hs
   repeat' (with_reducible first|apply Stp.go|refine imp fun _=>?_|refine zq ?_|refine zt ?_|refine zf ?_|refine zg ?_|refine za ?_|refine altF ?_|refine all fun _=>?_|refine both ?_ ?_|refine zu ?_|refine zv ?_|refine cho (fun _=>?_) fun _=>?_|refine zw ?_)
   exact again (i + 1, v) (by dsimp only; omega) (by dsimp only; omega) (by dsimp only; rw [hs]; exact Sub.drop_ (.cons _ (.cons_cons _ .slnil)) _)
 ·have e : i = l.length := by omega
  subst e
  repeat' (with_reducible first|apply Stp.go|refine imp fun _=>?_|refine zq ?_|refine zt ?_|refine zf ?_|refine zg ?_|refine za ?_|refine altF ?_|refine all fun _=>?_|refine both ?_ ?_|refine zu ?_|refine zv ?_|refine cho (fun _=>?_) fun _=>?_|refine zw ?_)
  exact ⟨_, _, _, rfl, Sub.refl _ _, _, rfl, rfl⟩
end Go.Ab

namespace Go.Ab
open Go.Proofs
abbrev itN (n : Nat) : AV := .val (.int .i64 (n : Nat))
instance : Enc itN 1 := ⟨fun n => ⟨rfl, fun c hc => by
 have hc : c ∈ [itN n] := hc
 rw [List.mem_singleton.1 hc]; rfl⟩, by decide, fun _ => rfl⟩
instance : ElemF [.val (.int .i64 0)] Nat itN := ⟨trivial⟩
instance (n : Nat) : AsF itN (.val (.int .i64 (n : Nat))) n := ⟨rfl⟩
instance (n : Nat) : Cells (itN n) [itN n] := ⟨rfl⟩
instance (n : Nat) : One (itN n) := ⟨rfl⟩
abbrev bV (b : Bool) : AV := B b
instance : ZeroV bV (.bool false) false := ⟨rfl⟩
instance (b : Bool) : AsF bV (.val (.bool b)) b := ⟨rfl⟩
abbrev MbT : TypeId := 99
instance : MapT Tryz.prog MbT (.int .i64) (.bool false) := ⟨by kernel_rfl⟩
abbrev SpT : TypeId := 97
theorem map_itN (o : List Nat) : (o.map Int.ofNat).map it = o.map itN := by rw [List.map_map]; rfl
theorem posT_nat (p : TabR → Bool) (l : List TabR) (k : Nat) : (posT p l k).map it = ((List.range k).filter fun i => p (l.getD i default)).map itN := map_itN _
def pickR (l : List TabR) : AV := if lvlT l < 3 then .tuple [.lst 1 (((inK l (lvlT l)).map Int.ofNat).map it) .ro, I .i64 ((lvlT l + 1 : Nat) : Nat), B true] else .tuple [.lst 1 (([] : List Int).map it) .ro, I .i64 0, B false]
theorem lvlT_of {l : List TabR} {k : Nat} (hk : k < 3) (h : hot l k = true) (h2 : ∀ j, j < k → hot l j = false) : lvlT l = k := by
 unfold lvlT
 match k, hk with
 | 0, _ => rw [if_pos h]
 | 1, _ => rw [h2 0 (by decide), if_neg (by decide), if_pos h]
 | 2, _ => rw [h2 0 (by decide), if_neg (by decide), h2 1 (by decide), if_neg (by decide), if_pos h]
theorem lvlT_none {l : List TabR} (h2 : ∀ j, j < 3 → hot l j = false) : lvlT l = 3 := by
 unfold lvlT
 rw [h2 0 (by decide), if_neg (by decide), h2 1 (by decide), if_neg (by decide), h2 2 (by decide), if_neg (by decide)]
theorem foldl_take_succ {α β : Type} [Inhabited α] (f : β → α → β) (b : β) {o : List α} {i : Nat} (h : i < o.length) : (o.take (i + 1)).foldl f b = f ((o.take i).foldl f b) (o.getD i default) := by
 rw [take_succ_d h, List.foldl_append]; rfl
theorem ownP_len (l : List TabR) (k : Nat) : (ownP l k).length ≤ l.length := by
 unfold ownP
 exact Nat.le_trans (List.length_filter_le _ _) (by rw [List.length_range]; exact Nat.le_refl _)
instance {a : AV} {l : List TabR} {m : SM} {k : Nat} {x : Int} {f g : List UInt8} {σ : Store} [h : IsL a tbF 36 l m] [hx : NatOf x k] : EC Tryz.prog 60 [a, .fn (.func 61) [.agg [.val (.int .i64 x), S f, S g]] []] σ (l.length ≤ 1000000) Value (fun v => .own v (ownP l k).length) (fun v => .row v InT 1 ((ownP l k).map itN) 0 :: σ) := ⟨fun hl => by
 have e := hx.eq
 subst e
 refine (((places_own l m _ _ _ hl (on_ok (k : Nat) f g)).subV (args := [a, .fn (.func 61) [.agg [.val (.int .i64 (k : Nat)), S f, S g]] []]) ⟨h.sub, SubV.refl _, trivial⟩).frame σ).mono ?_
 rintro x τ ⟨σ1, e1, _, v, e2, e3⟩
 refine ⟨v, ?_, ?_⟩
 ·rw [e2]
  unfold posT ownP
  rw [List.length_map]
 ·rw [e1, e3, posT_nat]
  rfl⟩
theorem overK_len (p : TabR → Bool) (l : List TabR) : ((List.range l.length).filter fun i => p (l.getD i default)).length ≤ l.length :=
 Nat.le_trans (List.length_filter_le _ _) (by rw [List.length_range]; exact Nat.le_refl _)
instance {a : AV} {l : List TabR} {m : SM} {x : Int} {f g : List UInt8} {σ : Store} [h : IsL a tbF 36 l m] : EC Tryz.prog 60 [a, .fn (.func 63) [.agg [.val (.int .i64 x), S f, S g]] []] σ (l.length ≤ 1000000) Value (fun v => .own v ((List.range l.length).filter fun i => overP x f g (l.getD i default)).length) (fun v => .row v InT 1 (((List.range l.length).filter fun i => overP x f g (l.getD i default)).map itN) 0 :: σ) := ⟨fun hl => by
 refine (((places_own l m _ _ _ hl (over_ok x f g)).subV (args := [a, .fn (.func 63) [.agg [.val (.int .i64 x), S f, S g]] []]) ⟨h.sub, SubV.refl _, trivial⟩).frame σ).mono ?_
 rintro x τ ⟨σ1, e1, _, v, e2, e3⟩
 refine ⟨v, ?_, ?_⟩
 ·rw [e2]
  unfold posT
  rw [List.length_map]
 ·rw [e1, e3, posT_nat]
  rfl⟩
def pick_Pick.mark : Mark := ⟨fun t => Nat.beq t 26, fun t => false, fun t => false, fun t => Nat.beq t 40 || Nat.beq t 47 || Nat.beq t 61 || Nat.beq t 69, fun t => false⟩
def pick_Pick.ann : Ann := ⟨fun n => bif Nat.beq n 2 then [0, 15] else bif Nat.beq n 10 then [0, 5, 6, 7, 49, 50, 51] else bif Nat.beq n 16 then [0, 5, 10, 80, 81, 82] else bif Nat.beq n 22 then [5, 10, 13, 90, 91] else [], fun n => bif Nat.beq n 8 then some [0, 5, 6] else none, fun n => bif Nat.beq n 8 then some [0, 5, 6, 7] else none⟩
def pick_Pick.sh (a0 : AV) (σ : Store) (Q : AEnd → Store → Prop) : Prop :=
 aLoop (fun go vs σ =>
 At vs 0 fun s0 => At vs 1 fun s15 => Do (aBin Tryz.prog .lss 3 s15 (.val (.int .i64 3))) fun t16 =>
 aCond t16
 (Do (aLit [.val (.int .i64 0), .val (.string ⟨#[]⟩), .val (.string ⟨#[]⟩)] [(0, 1), (1, 1), (2, 1)] [(0, s15)]) fun t20 =>
 aCall Tryz.prog 60 [s0, (.fn (.func 61) [t20] [])] σ (fun t22 σ_1 =>
 Do (aBuiltin Tryz.prog .len #[23] [t22]) fun t24 =>
 Do (aPureC Tryz.prog 62 [s15]) fun t26 =>
 Do (aBin Tryz.prog .leq 3 t24 t26) fun t27 =>
 aCond t27
 (Do (aBin Tryz.prog .add 3 s15 (.val (.int .i64 1))) fun t105 =>
 go [s0, t105] σ_1)
 (aJoin (fun j =>
 Do (aBin Tryz.prog .gtr 3 s15 (.val (.int .i64 0))) fun t29 =>
 aCond t29
 (Do (aSlice .slice 1 t22 none (some (.val (.int .i64 1))) none) fun t31 =>
 j [s0, s15, t31] σ_1)
 (j [s0, s15, t22] σ_1)) fun vs_1 σ_2 =>
 At vs_1 0 fun s0_1 => At vs_1 1 fun s5 => At vs_1 2 fun s6 => aJoin (fun j_1 =>
 Do (aBin Tryz.prog .add 3 s5 (.val (.int .i64 1))) fun t33 =>
 Do (aIndexAddr .slice 1 s6 (.val (.int .i64 0))) fun t36 =>
 Do (aIndexAddr .slice 1 s6 (.val (.int .i64 0))) fun t43 =>
 Both (Do (loadA false 1 t36 σ_2) fun t37 =>
 Do (aIndexAddr .slice 36 s0_1 t37) fun t38 =>
 Do (aFieldAddr 34 1 t38) fun t39 =>
 Do (loadF false 1 t39) fun t40 =>
 Both (Do (loadA false 1 t43 σ_2) fun t44 =>
 Do (aIndexAddr .slice 36 s0_1 t44) fun t45 =>
 Do (aFieldAddr 35 1 t45) fun t46 =>
 Do (loadF false 1 t46) fun t47 =>
 Do (aLit [.val (.int .i64 0), .val (.string ⟨#[]⟩), .val (.string ⟨#[]⟩)] [(0, 1), (1, 1), (2, 1)] [(0, t33), (1, t40), (2, t47)]) fun t48 =>
 aNewVar 97 [.val (.int .i64 0), .val (.string ⟨#[]⟩), .val (.string ⟨#[]⟩)] σ_2 fun t7 σ_4 =>
 storeA 3 t7 t48 σ_4 fun u σ_5 =>
 j_1 [s0_1, s5, s6, t7] σ_5) (aNewVar 97 [.val (.int .i64 0), .val (.string ⟨#[]⟩), .val (.string ⟨#[]⟩)] σ_2 fun t7_1 σ_6 =>
 Do (loadA false 1 t43 σ_6) fun t44_1 =>
 Do (aIndexAddr .slice 36 s0_1 t44_1) fun t45_1 =>
 Do (aFieldAddr 35 1 t45_1) fun t46_1 =>
 Do (loadF false 1 t46_1) fun t47_1 =>
 Do (aLit [.val (.int .i64 0), .val (.string ⟨#[]⟩), .val (.string ⟨#[]⟩)] [(0, 1), (1, 1), (2, 1)] [(0, t33), (1, t40), (2, t47_1)]) fun t48_1 =>
 storeA 3 t7_1 t48_1 σ_6 fun u_1 σ_7 =>
 j_1 [s0_1, s5, s6, t7_1] σ_7)) (Both (Do (loadA false 1 t43 σ_2) fun t44_2 =>
 Do (aIndexAddr .slice 36 s0_1 t44_2) fun t45_2 =>
 Do (aFieldAddr 35 1 t45_2) fun t46_2 =>
 Do (loadF false 1 t46_2) fun t47_2 =>
 Both (Do (loadA false 1 t36 σ_2) fun t37_1 =>
 Do (aIndexAddr .slice 36 s0_1 t37_1) fun t38_1 =>
 Do (aFieldAddr 34 1 t38_1) fun t39_1 =>
 Do (loadF false 1 t39_1) fun t40_1 =>
 Do (aLit [.val (.int .i64 0), .val (.string ⟨#[]⟩), .val (.string ⟨#[]⟩)] [(0, 1), (1, 1), (2, 1)] [(0, t33), (1, t40_1), (2, t47_2)]) fun t48_2 =>
 aNewVar 97 [.val (.int .i64 0), .val (.string ⟨#[]⟩), .val (.string ⟨#[]⟩)] σ_2 fun t7_2 σ_8 =>
 storeA 3 t7_2 t48_2 σ_8 fun u_2 σ_9 =>
 j_1 [s0_1, s5, s6, t7_2] σ_9) (aNewVar 97 [.val (.int .i64 0), .val (.string ⟨#[]⟩), .val (.string ⟨#[]⟩)] σ_2 fun t7_3 σ_10 =>
 Do (loadA false 1 t36 σ_10) fun t37_2 =>
 Do (aIndexAddr .slice 36 s0_1 t37_2) fun t38_2 =>
 Do (aFieldAddr 34 1 t38_2) fun t39_2 =>
 Do (loadF false 1 t39_2) fun t40_2 =>
 Do (aLit [.val (.int .i64 0), .val (.string ⟨#[]⟩), .val (.string ⟨#[]⟩)] [(0, 1), (1, 1), (2, 1)] [(0, t33), (1, t40_2), (2, t47_2)]) fun t48_3 =>
 storeA 3 t7_3 t48_3 σ_10 fun u_3 σ_11 =>
 j_1 [s0_1, s5, s6, t7_3] σ_11)) (aNewVar 97 [.val (.int .i64 0), .val (.string ⟨#[]⟩), .val (.string ⟨#[]⟩)] σ_2 fun t7_4 σ_12 =>
 Do (loadA false 1 t36 σ_12) fun t37_3 =>
 Do (aIndexAddr .slice 36 s0_1 t37_3) fun t38_3 =>
 Do (aFieldAddr 34 1 t38_3) fun t39_3 =>
 Do (loadF false 1 t39_3) fun t40_3 =>
 Do (loadA false 1 t43 σ_12) fun t44_3 =>
 Do (aIndexAddr .slice 36 s0_1 t44_3) fun t45_3 =>
 Do (aFieldAddr 35 1 t45_3) fun t46_3 =>
 Do (loadF false 1 t46_3) fun t47_3 =>
 Do (aLit [.val (.int .i64 0), .val (.string ⟨#[]⟩), .val (.string ⟨#[]⟩)] [(0, 1), (1, 1), (2, 1)] [(0, t33), (1, t40_3), (2, t47_3)]) fun t48_4 =>
 storeA 3 t7_4 t48_4 σ_12 fun u_4 σ_13 =>
 j_1 [s0_1, s5, s6, t7_4] σ_13))) fun vs_2 σ_3 =>
 At vs_2 0 fun s0_2 => At vs_2 1 fun s5_1 => At vs_2 2 fun s6_1 => At vs_2 3 fun s7 => Do (aBuiltin Tryz.prog .len #[23] [s6_1]) fun t50 =>
 aLoop (fun go_1 vs_3 σ_14 =>
 At vs_3 0 fun s0_3 => At vs_3 1 fun s5_2 => At vs_3 2 fun s6_2 => At vs_3 3 fun s7_1 => At vs_3 4 fun s49 => At vs_3 5 fun s50 => At vs_3 6 fun s51 => Do (aBin Tryz.prog .lss 3 s51 s50) fun t52 =>
 aCond t52
 (Do (aIndexAddr .slice 1 s49 s51) fun t53 =>
 Do (loadA false 1 t53 σ_14) fun t54 =>
 Do (aFieldAddr 1 1 s7_1) fun t55 =>
 Do (loadA false 1 t55 σ_14) fun t56 =>
 Do (aIndexAddr .slice 36 s0_3 t54) fun t59 =>
 Do (aFieldAddr 34 1 t59) fun t60 =>
 Do (loadF false 1 t60) fun t61 =>
 Do (aBuiltin Tryz.prog .min #[9, 9] [t56, t61]) fun t62 =>
 Do (aFieldAddr 2 1 s7_1) fun t63 =>
 Do (loadA false 1 t63 σ_14) fun t64 =>
 Do (aIndexAddr .slice 36 s0_3 t54) fun t67 =>
 Do (aFieldAddr 35 1 t67) fun t68 =>
 Do (loadF false 1 t68) fun t69 =>
 Do (aBuiltin Tryz.prog .max #[9, 9] [t64, t69]) fun t70 =>
 Do (aFieldAddr 1 1 s7_1) fun t71 =>
 storeA 1 t71 t62 σ_14 fun u_5 σ_15 =>
 Do (aFieldAddr 2 1 s7_1) fun t72 =>
 storeA 1 t72 t70 σ_15 fun u_6 σ_16 =>
 Do (aBin Tryz.prog .add 3 s51 (.val (.int .i64 1))) fun t73 =>
 go_1 [s0_3, s5_2, s6_2, s7_1, s49, s50, t73] σ_16)
 (aHook (eMakeMap σ_14) fun t74 σ_17 =>
 Do (loadA true 3 s7_1 σ_17) fun t77 =>
 aCall Tryz.prog 60 [s0_3, (.fn (.func 63) [t77] [])] σ_17 (fun t79 σ_18 =>
 aAppend 3 1 8 s6_2 t79 σ_18 (subF fun t80 σ_19 =>
 Do (aBuiltin Tryz.prog .len #[23] [t80]) fun t81 =>
 aLoop (fun go_2 vs_4 σ_20 =>
 At vs_4 0 fun s0_4 => At vs_4 1 fun s5_3 => At vs_4 2 fun s10 => At vs_4 3 fun s80 => At vs_4 4 fun s81 => At vs_4 5 fun s82 => Do (aBin Tryz.prog .lss 3 s82 s81) fun t83 =>
 aCond t83
 (Do (aIndexAddr .slice 1 s80 s82) fun t84 =>
 Do (loadA false 1 t84 σ_20) fun t85 =>
 aHook (eMapUpd Tryz.prog 99 s10 t85 (.val (.bool true)) σ_20) fun u_7 σ_21 =>
 Do (aBin Tryz.prog .add 3 s82 (.val (.int .i64 1))) fun t88 =>
 go_2 [s0_4, s5_3, s10, s80, s81, t88] σ_21)
 (Do (aBuiltin Tryz.prog .len #[24] [s0_4]) fun t90 =>
 aLoop (fun go_3 vs_5 σ_22 =>
 At vs_5 0 fun s5_4 => At vs_5 1 fun s10_1 => At vs_5 2 fun s13 => At vs_5 3 fun s90 => At vs_5 4 fun s91 => Do (aBin Tryz.prog .lss 3 s91 s90) fun t92 =>
 aCond t92
 (Do (lookA Tryz.prog 99 false s10_1 s91 σ_22) fun t96 =>
 aCond t96
 (Do (aSlLit (mkE [.val (.int .i64 0)]) 1 1 [(0, s91)]) fun t99 =>
 aAppend 3 1 8 s13 t99 σ_22 (subK fun t100 σ_23 =>
 Do (aBin Tryz.prog .add 3 s91 (.val (.int .i64 1))) fun t101 =>
 go_3 [s5_4, s10_1, t100, s90, t101] σ_23))
 (Do (aBin Tryz.prog .add 3 s91 (.val (.int .i64 1))) fun t101_1 =>
 go_3 [s5_4, s10_1, s13, s90, t101_1] σ_22))
 (Do (aBin Tryz.prog .add 3 s5_4 (.val (.int .i64 1))) fun t104 =>
 Q (.ret (.tuple [s13, t104, (.val (.bool true))])) σ_22))
 [s5_3, s10, (.val (.slice none 0 0)), t90, (.val (.int .i64 0))] σ_20))
 [s0_3, s5_2, t74, t80, t81, (.val (.int .i64 0))] σ_19)) (fun e σ_24 => Q (.pan e) σ_24)))
 [s0_2, s5_1, s6_1, s7, s6_1, t50, (.val (.int .i64 0))] σ_3)) (fun e_1 σ_25 => Q (.pan e_1) σ_25))
 (Q (.ret (.tuple [(.val (.slice none 0 0)), (.val (.int .i64 0)), (.val (.bool false))])) σ))
 [a0, (.val (.int .i64 0))] σ
theorem pick_Pick.eq (a0 : AV) (σ : Store) (Q : AEnd → Store → Prop) : vc (semOf Tryz.prog pick_Pick.mark) Tryz.f31.ntmps pick_Pick.ann (bodyOf Tryz.f31) (endK [.tmp 2, .tmp 3, .tmp 4] Q) (argFr [a0]) σ = pick_Pick.sh a0 σ Q := by kernel_rfl
theorem pick_Pick.go {a0 : AV} {σ : Store} {Q : AEnd → Store → Prop} (h : pick_Pick.sh a0 σ Q) : ACalls Tryz.prog 31 [a0] σ Q :=
 acalls_of_eq [.tmp 2, .tmp 3, .tmp 4] Tryz.func31 (by kernel_rfl) (by kernel_rfl) (by kernel_rfl) (by kernel_rfl) (pick_Pick.eq a0 σ Q) h
theorem Pick_ok (l : List TabR) (m : SM) (hl : l.length ≤ 1000000) : aPure Tryz.prog 31 [.lst 36 (l.map tbF) m] (pickR l) := by
  refine ACalls.fin (pick_Pick.go ?_)
  unfold pick_Pick.sh
  repeat' (with_reducible first|apply Stp.go|refine imp fun _=>?_|refine zq ?_|refine zt ?_|refine zf ?_|refine zg ?_|refine za ?_|refine altF ?_|refine all fun _=>?_|refine both ?_ ?_|refine zu ?_|refine zv ?_|refine cho (fun _=>?_) fun _=>?_|refine zw ?_)
  refine loopI (β := Nat) (fun k => k ≤ 3 ∧ ∀ j, j < k → hot l j = false) (fun k => [.lst 36 (l.map tbF) m, I .i64 (k : Nat)]) (fun _ => []) (fun k => 3 - k) 0 ⟨Nat.zero_le _, fun j h => absurd h (Nat.not_lt_zero _)⟩ (Sub.refl _ _) ?_
  rintro k ⟨hk, hn⟩
  dsimp only at hk hn ⊢
  by_cases h3 : k < 3
  · have hcap : capT k ≤ 32 := by unfold capT; split <;> decide
    have hpl := ownP_len l k
    by_cases hh : hot l k = true
    · have hh2 : capT k < (ownP l k).length := by unfold hot at hh; exact of_decide_eq_true hh
      have hlv := lvlT_of h3 hh hn
      have hop := ownK_pos hh
      unfold pickR
      rw [hlv, if_pos h3]
      have hol : (ownK l k).length ≤ l.length := by
        unfold ownK
        split
        · exact hpl
        · rw [List.length_take]; omega
      have hom : ∀ i, i < (ownK l k).length → (ownK l k).getD i default < l.length := fun i hi => (ownK_mem (getD_memT hi)).1
      repeat' (with_reducible first|apply Stp.go|refine imp fun _=>?_|refine zq ?_|refine zt ?_|refine zf ?_|refine zg ?_|refine za ?_|refine altF ?_|refine all fun _=>?_|refine both ?_ ?_|refine zu ?_|refine zv ?_|refine cho (fun _=>?_) fun _=>?_|refine zw ?_)
      rename_i v
      refine joinI (β := Value) (fun _ => True) (fun v => [.lst 36 (l.map tbF) m, I .i64 (k : Nat), .own v (ownK l k).length]) (fun v => [.row v InT 1 ((ownK l k).map itN) 0]) ?_ ?_
      · by_cases hk0 : k = 0
        · subst hk0
          have e : ownK l 0 = ownP l 0 := by unfold ownK; rw [if_pos rfl]
          rw [e]
          repeat' (with_reducible first|apply Stp.go|refine imp fun _=>?_|refine zq ?_|refine zt ?_|refine zf ?_|refine zg ?_|refine za ?_|refine altF ?_|refine all fun _=>?_|refine both ?_ ?_|refine zu ?_|refine zv ?_|refine cho (fun _=>?_) fun _=>?_|refine zw ?_)
          all_goals exact meet v trivial (Sub.refl _ _)
        · have e : ownK l k = (ownP l k).take 1 := by unfold ownK; rw [if_neg hk0]
          have e1 : ((ownP l k).take 1).length = 1 := by rw [List.length_take]; omega
          have h1 : 1 ≤ (ownP l k).length := by omega
          rw [e, e1, List.map_take]
          repeat' (with_reducible first|apply Stp.go|refine imp fun _=>?_|refine zq ?_|refine zt ?_|refine zf ?_|refine zg ?_|refine za ?_|refine altF ?_|refine all fun _=>?_|refine both ?_ ?_|refine zu ?_|refine zv ?_|refine cho (fun _=>?_) fun _=>?_|refine zw ?_)
          all_goals exact meet (reV v 1) trivial (Sub.cut (by rw [List.length_map]; omega) (by rw [List.length_map]; omega) [_, _] [])
      · intro v' _
        clear v
        generalize hO : ownK l k = O at *
        have hfr : fromK l k = O.foldl (fun s i => lowS s (l.getD i default).fst) (l.getD (O.getD 0 default) default).fst := by unfold fromK headT; rw [hO]
        have hto : toK l k = O.foldl (fun s i => highS s (l.getD i default).lst) (l.getD (O.getD 0 default) default).lst := by unfold toK headT; rw [hO]
        have h00 := hom 0 hop
        repeat' (with_reducible first|apply Stp.go|refine imp fun _=>?_|refine zq ?_|refine zt ?_|refine zf ?_|refine zg ?_|refine za ?_|refine altF ?_|refine all fun _=>?_|refine both ?_ ?_|refine zu ?_|refine zv ?_|refine cho (fun _=>?_) fun _=>?_|refine zw ?_)
        refine joinI (β := Nat) (fun _ => True) (fun b => [.lst 36 (l.map tbF) m, I .i64 (k : Nat), .own v' O.length, ptrAt b 0]) (fun b => [.var b SpT [I .i64 ((k + 1 : Nat) : Int), S (l.getD (O.getD 0 default) default).fst, S (l.getD (O.getD 0 default) default).lst], .row v' InT 1 (O.map itN) 0]) ?_ ?_
        · repeat' (with_reducible first|apply Stp.go|refine imp fun _=>?_|refine zq ?_|refine zt ?_|refine zf ?_|refine zg ?_|refine za ?_|refine altF ?_|refine all fun _=>?_|refine both ?_ ?_|refine zu ?_|refine zv ?_|refine cho (fun _=>?_) fun _=>?_|refine zw ?_)
          all_goals
            rename_i bx
            exact meet bx trivial (Sub.refl _ _)
        · intro b _
          repeat' (with_reducible first|apply Stp.go|refine imp fun _=>?_|refine zq ?_|refine zt ?_|refine zf ?_|refine zg ?_|refine za ?_|refine altF ?_|refine all fun _=>?_|refine both ?_ ?_|refine zu ?_|refine zv ?_|refine cho (fun _=>?_) fun _=>?_|refine zw ?_)
          refine loopI (β := Nat) (fun i => i ≤ O.length) (fun i => [.lst 36 (l.map tbF) m, I .i64 (k : Nat), .own v' O.length, ptrAt b 0, .own v' O.length, I .i64 (O.length : Nat), I .i64 (i : Nat)])
            (fun i => [.var b SpT [I .i64 ((k + 1 : Nat) : Int), S ((O.take i).foldl (fun s i => lowS s (l.getD i default).fst) (l.getD (O.getD 0 default) default).fst), S ((O.take i).foldl (fun s i => highS s (l.getD i default).lst) (l.getD (O.getD 0 default) default).lst)], .row v' InT 1 (O.map itN) 0])
            (fun i => O.length - i) 0 (Nat.zero_le _) (Sub.refl _ _) ?_
          intro i hi
          by_cases hlt : i < O.length
          · have hix := hom i hlt
            have s1 := foldl_take_succ (fun s i => lowS s (l.getD i default).fst) (l.getD (O.getD 0 default) default).fst hlt
            have s2 := foldl_take_succ (fun s i => highS s (l.getD i default).lst) (l.getD (O.getD 0 default) default).lst hlt
            repeat' (with_reducible first|apply Stp.go|refine imp fun _=>?_|refine zq ?_|refine zt ?_|refine zf ?_|refine zg ?_|refine za ?_|refine altF ?_|refine all fun _=>?_|refine both ?_ ?_|refine zu ?_|refine zv ?_|refine cho (fun _=>?_) fun _=>?_|refine zw ?_)
            exact again (i + 1) (by omega) (by omega) (by rw [s1, s2]; exact Sub.refl _ _)
          · have ei : i = O.length := by omega
            subst ei
            rw [List.take_length, ← hfr, ← hto]
            have hVl := overK_len (overP ((k + 1 : Nat) : Int) (fromK l k) (toK l k)) l
            have hin : ∀ i, i < l.length → (i ∈ O ++ ((List.range l.length).filter fun i => overP ((k + 1 : Nat) : Int) (fromK l k) (toK l k) (l.getD i default)) ↔ inP l k i = true) := fun i hi => by
              unfold inP
              rw [hO, Bool.or_eq_true, decide_eq_true_eq, List.mem_append, List.mem_filter, List.mem_range]
              constructor
              · rintro (h | ⟨_, h⟩)
                · exact .inl h
                · exact .inr h
              · rintro (h | h)
                · exact .inl h
                · exact .inr ⟨hi, h⟩
            repeat' (with_reducible first|apply Stp.go|refine imp fun _=>?_|refine zq ?_|refine zt ?_|refine zf ?_|refine zg ?_|refine za ?_|refine altF ?_|refine all fun _=>?_|refine both ?_ ?_|refine zu ?_|refine zv ?_|refine cho (fun _=>?_) fun _=>?_|refine zw ?_)
            generalize hA : O ++ ((List.range l.length).filter fun i => overP ((k + 1 : Nat) : Int) (fromK l k) (toK l k) (l.getD i default)) = A at *
            have hAl : A.length ≤ 2000000 := by rw [← hA, List.length_append]; omega
            clear hA
            repeat' (with_reducible first|apply Stp.go|refine imp fun _=>?_|refine zq ?_|refine zt ?_|refine zf ?_|refine zg ?_|refine za ?_|refine altF ?_|refine all fun _=>?_|refine both ?_ ?_|refine zu ?_|refine zv ?_|refine cho (fun _=>?_) fun _=>?_|refine zw ?_)
            rename_i mb v2
            refine loopI (β := Nat × List (Nat × Int × Bool) × Nat) (fun x => x.1 ≤ A.length ∧ ∀ q : Int, findT q x.2.1 = if q ∈ (A.take x.1).map Int.ofNat then some true else none)
              (fun x => [.lst 36 (l.map tbF) m, I .i64 (k : Nat), .val (.map (some mb)), .lst 1 (A.map itN) .ro, I .i64 (A.length : Nat), I .i64 (x.1 : Nat)])
              (fun x => [.map mb (mkM keyI bV x.2.1) x.2.2]) (fun x => A.length - x.1) (0, [], 0) ⟨Nat.zero_le _, fun q => rfl⟩ (Sub.drop_ (.cons _ (.cons_cons _ (List.nil_sublist _))) _) ?_
            rintro ⟨i, L, ck⟩ ⟨q1, q2⟩
            dsimp only at q1 q2 ⊢
            by_cases hia : i < A.length
            · repeat' (with_reducible first|apply Stp.go|refine imp fun _=>?_|refine zq ?_|refine zt ?_|refine zf ?_|refine zg ?_|refine za ?_|refine altF ?_|refine all fun _=>?_|refine both ?_ ?_|refine zu ?_|refine zv ?_|refine cho (fun _=>?_) fun _=>?_|refine zw ?_)
              refine again (i + 1, setT ((A.getD i default : Nat) : Int) true ck L, bif hasT ((A.getD i default : Nat) : Int) L then ck else ck + 1) (by dsimp only; omega) ⟨by dsimp only; omega, fun q => ?_⟩ (Sub.refl _ _)
              dsimp only
              rw [findT_set, q2, take_succ_d hia, List.map_append]
              by_cases e : q = ((A.getD i default : Nat) : Int)
              · rw [if_pos e, if_pos (List.mem_append_right _ (by rw [e]; exact List.mem_cons_self))]
              · rw [if_neg e]
                by_cases e2 : q ∈ (A.take i).map Int.ofNat
                · rw [if_pos e2, if_pos (List.mem_append_left _ e2)]
                · rw [if_neg e2, if_neg]
                  intro h
                  rcases List.mem_append.1 h with h | h
                  · exact e2 h
                  · exact e (List.mem_singleton.1 h)
            · have ei : i = A.length := by omega
              subst ei
              rw [List.take_length] at q2
              repeat' (with_reducible first|apply Stp.go|refine imp fun _=>?_|refine zq ?_|refine zt ?_|refine zf ?_|refine zg ?_|refine za ?_|refine altF ?_|refine all fun _=>?_|refine both ?_ ?_|refine zu ?_|refine zv ?_|refine cho (fun _=>?_) fun _=>?_|refine zw ?_)
              refine loopI (β := Nat × Value) (fun x => x.1 ≤ l.length) (fun x => [I .i64 (k : Nat), .val (.map (some mb)), .own x.2 ((List.range x.1).filter (inP l k)).length, I .i64 (l.length : Nat), I .i64 (x.1 : Nat)])
                (fun x => [.row x.2 InT 1 (((List.range x.1).filter (inP l k)).map itN) 0, .map mb (mkM keyI bV L) ck]) (fun x => l.length - x.1) (0, .slice none 0 0) (Nat.zero_le _) (Sub.nil_own InT (sz := 1) (by decide) _ [_, _] [_, _]) ?_
              rintro ⟨i, w⟩ p1
              dsimp only at p1 ⊢
              by_cases hil : i < l.length
              · have hff : (findT ((i : Nat) : Int) L).getD false = inP l k i := by
                  rw [q2]
                  by_cases h : ((i : Nat) : Int) ∈ A.map Int.ofNat
                  · rw [if_pos h, (hin i hil).1 (mem_map_nat.1 h)]; rfl
                  · rw [if_neg h, Bool.eq_false_iff.2 fun h2 => h (mem_map_nat.2 ((hin i hil).2 h2))]; rfl
                have hfl : ((List.range i).filter (inP l k)).length ≤ i := Nat.le_trans (List.length_filter_le _ _) (by rw [List.length_range]; exact Nat.le_refl _)
                have hs : (List.range (i + 1)).filter (inP l k) = (List.range i).filter (inP l k) ++ if inP l k i = true then [i] else [] := by
                  rw [List.range_succ, List.filter_append]
                  congr 1
                  by_cases h : inP l k i = true
                  · rw [if_pos h, List.filter_cons_of_pos h]; rfl
                  · rw [if_neg h, List.filter_cons_of_neg h]; rfl
                by_cases hp : inP l k i = true
                · rw [hp] at hff
                  rw [if_pos hp] at hs
                  repeat' (with_reducible first|apply Stp.go|refine imp fun _=>?_|refine zq ?_|refine zt ?_|refine zf ?_|refine zg ?_|refine za ?_|refine altF ?_|refine all fun _=>?_|refine both ?_ ?_|refine zu ?_|refine zv ?_|refine cho (fun _=>?_) fun _=>?_|refine zw ?_)
                  all_goals first
                  | (exfalso; simp_all; done)
                  | (rename_i w2
                     exact again (i + 1, w2) (by dsimp only; omega) (by dsimp only; omega) (by dsimp only; rw [hs]; exact Sub.refl _ _))
                · rw [Bool.eq_false_iff.2 hp] at hff
                  rw [if_neg hp, List.append_nil] at hs
                  repeat' (with_reducible first|apply Stp.go|refine imp fun _=>?_|refine zq ?_|refine zt ?_|refine zf ?_|refine zg ?_|refine za ?_|refine altF ?_|refine all fun _=>?_|refine both ?_ ?_|refine zu ?_|refine zv ?_|refine cho (fun _=>?_) fun _=>?_|refine zw ?_)
                  all_goals first
                  | exact again (i + 1, w) (by dsimp only; omega) (by dsimp only; omega) (by dsimp only; rw [hs]; exact Sub.refl _ _)
                  | (exfalso; simp_all; done)
              · have ei : i = l.length := by omega
                subst ei
                rw [map_itN, show ((List.range l.length).filter (inP l k)) = inK l k from rfl]
                repeat' (with_reducible first|apply Stp.go|refine imp fun _=>?_|refine zq ?_|refine zt ?_|refine zf ?_|refine zg ?_|refine za ?_|refine altF ?_|refine all fun _=>?_|refine both ?_ ?_|refine zu ?_|refine zv ?_|refine cho (fun _=>?_) fun _=>?_|refine zw ?_)
                exact ⟨_, _, _, rfl, Sub.tuple (retOwn (Sub.app_nil _)), rfl, rfl⟩
    · have hh2 : ¬ capT k < (ownP l k).length := by unfold hot at hh; exact fun h => hh (decide_eq_true h)
      repeat' (with_reducible first|apply Stp.go|refine imp fun _=>?_|refine zq ?_|refine zt ?_|refine zf ?_|refine zg ?_|refine za ?_|refine altF ?_|refine all fun _=>?_|refine both ?_ ?_|refine zu ?_|refine zv ?_|refine cho (fun _=>?_) fun _=>?_|refine zw ?_)
      refine again (k + 1) (by omega) ⟨by omega, fun j hj => ?_⟩ (Sub.app_nil _)
      by_cases e : j = k
      · subst e; exact Bool.eq_false_iff.2 hh
      · exact hn j (by omega)
  · have e : k = 3 := by omega
    subst e
    unfold pickR
    rw [lvlT_none hn]
    repeat' (with_reducible first|apply Stp.go|refine imp fun _=>?_|refine zq ?_|refine zt ?_|refine zf ?_|refine zg ?_|refine za ?_|refine altF ?_|refine all fun _=>?_|refine both ?_ ?_|refine zu ?_|refine zv ?_|refine cho (fun _=>?_) fun _=>?_|refine zw ?_)
    exact ⟨_, _, _, rfl, Sub.tuple (retNil it (sz := 1) (by decide) (Sub.app_nil _)), rfl, rfl⟩
end Go.Ab

namespace Go.Ab
open Go.Proofs
abbrev EsT : TypeId := 33
namespace Es
def slices_Clone.mark : Mark := ⟨fun t => false, fun t => Nat.beq t 5, fun t => false, fun t => false, fun t => false⟩
def slices_Clone.ann : Ann := ⟨fun n => [], fun n => none, fun n => none⟩
def slices_Clone.sh (a0 : AV) (σ : Store) (Q : AEnd → Store → Prop) : Prop :=
 Do (aBin Tryz.prog .eql 33 a0 (.val (.slice none 0 0))) fun t4 =>
 aCond t4
 (Q (.ret (.val (.slice none 0 0))) σ)
 (aRowL 50 (mkE [.val (.string ⟨#[]⟩), .val (.string ⟨#[]⟩), .val (.bool false), .val (.int .i64 0)]) 4 0 [] σ fun t5 σ =>
 aAppend 50 4 48 t5 a0 σ (subK fun t7 σ_1 =>
 Q (.ret t7) σ_1))
theorem slices_Clone.eq (a0 : AV) (σ : Store) (Q : AEnd → Store → Prop) : vc (semOf Tryz.prog slices_Clone.mark) Tryz.f67.ntmps slices_Clone.ann (bodyOf Tryz.f67) (endK [.tmp 2] Q) (argFr [a0]) σ = slices_Clone.sh a0 σ Q := by kernel_rfl
theorem slices_Clone.go {a0 : AV} {σ : Store} {Q : AEnd → Store → Prop} (h : slices_Clone.sh a0 σ Q) : ACalls Tryz.prog 67 [a0] σ Q :=
 acalls_of_eq [.tmp 2] Tryz.func67 (by kernel_rfl) (by kernel_rfl) (by kernel_rfl) (by kernel_rfl) (slices_Clone.eq a0 σ Q) h
end Es
theorem CloneE_ok (l : List En) (hl : l.length ≤ 1000000) : ACalls Tryz.prog 67 [.lst 4 (l.map En.av) .ro] [] (fun x σ' => x = .ret (.lst 4 (l.map En.av) .ro) ∧ σ' = []) := by
 by_cases h0 : l.length = 0
 ·have e : l = [] := List.length_eq_zero_iff.1 h0
  subst e
  refine emptyArg fun ao cap => ACalls.fin (Es.slices_Clone.go ?_)
  unfold Es.slices_Clone.sh
  cases ao with
  | none =>
   have ht : (none : Option Addr).isNone = true := rfl
   repeat' (with_reducible first|apply Stp.go|refine imp fun _=>?_|refine zq ?_|refine zt ?_|refine zf ?_|refine zg ?_|refine za ?_|refine altF ?_|refine all fun _=>?_|refine both ?_ ?_|refine zu ?_|refine zv ?_|refine cho (fun _=>?_) fun _=>?_|refine zw ?_)
   exact ⟨_, _, _, rfl, retNil En.av (sz := 4) (by decide) (Sub.refl _ _), rfl, rfl⟩
  | some a =>
   have ht : ¬ (some a).isNone = true := by simp
   have hs := fun σ => srcE (sz := 4) (cap := cap) (f := En.av) σ a
   repeat' (with_reducible first|apply Stp.go|refine imp fun _=>?_|refine zq ?_|refine zt ?_|refine zf ?_|refine zg ?_|refine za ?_|refine altF ?_|refine all fun _=>?_|refine both ?_ ?_|refine zu ?_|refine zv ?_|refine cho (fun _=>?_) fun _=>?_|refine zw ?_)
   exact ⟨_, _, _, rfl, retOwn (Sub.refl _ _), rfl, rfl⟩
 ·refine ACalls.fin (Es.slices_Clone.go ?_)
  unfold Es.slices_Clone.sh
  repeat' (with_reducible first|apply Stp.go|refine imp fun _=>?_|refine zq ?_|refine zt ?_|refine zf ?_|refine zg ?_|refine za ?_|refine altF ?_|refine all fun _=>?_|refine both ?_ ?_|refine zu ?_|refine zv ?_|refine cho (fun _=>?_) fun _=>?_|refine zw ?_)
  exact ⟨_, _, _, rfl, retOwn (Sub.refl _ _), rfl, rfl⟩
instance {a : AV} {l : List En} {m : SM} [h : IsL a En.av 4 l m] : PC Tryz.prog 67 [a] (l.length ≤ 1000000) (.lst 4 (l.map En.av) .ro) := ⟨fun hl => ⟨[.lst 4 (l.map En.av) .ro], ⟨fun R v hv => SubV.ro _ _ _ R v (h.sub R v hv), trivial⟩, CloneE_ok l hl⟩⟩
instance : ElemF [.val (.slice none 0 0)] (List En) enL := ⟨trivial⟩
instance (l : List En) : AsF enL (.lst 4 (l.map En.av) .ro) l := ⟨rfl⟩
def merge_Split.mark : Mark := ⟨fun t => false, fun t => false, fun t => false, fun t => false, fun t => false⟩
def merge_Split.ann : Ann := ⟨fun n => bif Nat.beq n 6 then [0, 3, 4, 15, 16] else [], fun n => bif Nat.beq n 11 then some [0, 3, 4, 6, 15, 16] else none, fun n => none⟩
def merge_Split.sh (a0 : AV) (σ : Store) (Q : AEnd → Store → Prop) : Prop :=
 Do (aBuiltin Tryz.prog .len #[33] [a0]) fun t8 =>
 Do (aBin Tryz.prog .eql 3 t8 (.val (.int .i64 0))) fun t9 =>
 aCond t9
 (Q (.ret (.val (.slice none 0 0))) σ)
 (Do (aBuiltin Tryz.prog .len #[33] [a0]) fun t11 =>
 Do (aBin Tryz.prog .add 3 t11 (.val (.int .i64 64))) fun t12 =>
 Do (aBin Tryz.prog .sub 3 t12 (.val (.int .i64 1))) fun t13 =>
 Do (aBin Tryz.prog .quo 3 t13 (.val (.int .i64 64))) fun t14 =>
 aLoop (fun go vs σ =>
 At vs 0 fun s0 => At vs 1 fun s3 => At vs 2 fun s4 => At vs 3 fun s15 => At vs 4 fun s16 => Do (aBin Tryz.prog .lss 3 s16 s15) fun t17 =>
 aCond t17
 (Do (aBuiltin Tryz.prog .len #[33] [s0]) fun t20 =>
 Do (aBin Tryz.prog .sub 3 s3 s16) fun t23 =>
 Do (aBin Tryz.prog .quo 3 t20 t23) fun t24 =>
 aJoin (fun j =>
 Do (aBuiltin Tryz.prog .len #[33] [s0]) fun t26 =>
 Do (aBin Tryz.prog .sub 3 s3 s16) fun t29 =>
 Do (aBin Tryz.prog .rem 3 t26 t29) fun t30 =>
 Do (aBin Tryz.prog .gtr 3 t30 (.val (.int .i64 0))) fun t31 =>
 aCond t31
 (Do (aBin Tryz.prog .add 3 t24 (.val (.int .i64 1))) fun t33 =>
 j [s0, s3, s4, t33, s15, s16] σ)
 (j [s0, s3, s4, t24, s15, s16] σ)) fun vs_1 σ_1 =>
 At vs_1 0 fun s0_1 => At vs_1 1 fun s3_1 => At vs_1 2 fun s4_1 => At vs_1 3 fun s6 => At vs_1 4 fun s15_1 => At vs_1 5 fun s16_1 => Do (aSlice .slice 4 s0_1 none (some s6) none) fun t37 =>
 aCall Tryz.prog 67 [t37] σ_1 (fun t38 σ_2 =>
 Do (aSlLit (mkE [.val (.slice none 0 0)]) 1 1 [(0, t38)]) fun t39 =>
 aAppend 33 1 24 s4_1 t39 σ_2 (subK fun t40 σ_3 =>
 Do (aSlice .slice 4 s0_1 (some s6) none none) fun t43 =>
 Do (aBin Tryz.prog .add 3 s16_1 (.val (.int .i64 1))) fun t44 =>
 go [t43, s3_1, t40, s15_1, t44] σ_3)) (fun e σ_4 => Q (.pan e) σ_4))
 (Q (.ret s4) σ))
 [a0, t14, (.val (.slice none 0 0)), t14, (.val (.int .i64 0))] σ)
theorem merge_Split.eq (a0 : AV) (σ : Store) (Q : AEnd → Store → Prop) : vc (semOf Tryz.prog merge_Split.mark) Tryz.f34.ntmps merge_Split.ann (bodyOf Tryz.f34) (endK [.tmp 2] Q) (argFr [a0]) σ = merge_Split.sh a0 σ Q := by kernel_rfl
theorem merge_Split.go {a0 : AV} {σ : Store} {Q : AEnd → Store → Prop} (h : merge_Split.sh a0 σ Q) : ACalls Tryz.prog 34 [a0] σ Q :=
 acalls_of_eq [.tmp 2] Tryz.func34 (by kernel_rfl) (by kernel_rfl) (by kernel_rfl) (by kernel_rfl) (merge_Split.eq a0 σ Q) h
theorem Split_ok (l : List En) (hl : l.length ≤ 100000) : aPure Tryz.prog 34 [.lst 4 (l.map En.av) .ro] (.lst 1 ((splitL l).map enL) .ro) := by
 refine ACalls.fin (merge_Split.go ?_)
 unfold merge_Split.sh
 by_cases h0 : l.length = 0
 ·have e : l = [] := List.length_eq_zero_iff.1 h0
  subst e
  repeat' (with_reducible first|apply Stp.go|refine imp fun _=>?_|refine zq ?_|refine zt ?_|refine zf ?_|refine zg ?_|refine za ?_|refine altF ?_|refine all fun _=>?_|refine both ?_ ?_|refine zu ?_|refine zv ?_|refine cho (fun _=>?_) fun _=>?_|refine zw ?_)
  all_goals exact ⟨_, _, _, rfl, retNil enL (sz := 1) (by decide) (Sub.refl _ _), rfl, rfl⟩
 ·have hm : (l.length + 64 - 1) / 64 = manyP l.length := rfl
  have hml := manyP_le l.length
  have hsl := splitL_len l
  repeat' (with_reducible first|apply Stp.go|refine imp fun _=>?_|refine zq ?_|refine zt ?_|refine zf ?_|refine zg ?_|refine za ?_|refine altF ?_|refine all fun _=>?_|refine both ?_ ?_|refine zu ?_|refine zv ?_|refine cho (fun _=>?_) fun _=>?_|refine zw ?_)
  generalize hM : manyP l.length = M at *
  refine loopI (β := Nat × Value × List En) (fun x => x.1 ≤ M ∧ M - x.1 ≤ x.2.2.length ∧ x.2.2.length ≤ 64 * (M - x.1) ∧ splitK (M - x.1) x.2.2 = (splitL l).drop x.1)
   (fun x => [.lst 4 (x.2.2.map En.av) .ro, I .i64 (M : Nat), .own x.2.1 ((splitL l).take x.1).length, I .i64 (M : Nat), I .i64 (x.1 : Nat)])
   (fun x => [.row x.2.1 EsT 1 (((splitL l).take x.1).map enL) 0]) (fun x => M - x.1) (0, .slice none 0 0, l) ⟨Nat.zero_le _, hml.1, hml.2, by show splitK (M - 0) l = splitL l; unfold splitL; rw [hM]; rfl⟩ ?_ ?_
  ·rw [hm]
   exact Sub.nil_own EsT (sz := 1) (by decide) _ [_, _] [_, _]
  rintro ⟨i, v, R⟩ ⟨h1, h2, h3, h4⟩
  dsimp only at h1 h2 h3 h4 ⊢
  by_cases hi : i < M
  ·obtain ⟨k, hk⟩ : ∃ k, M - i = k + 1 := ⟨M - i - 1, by omega⟩
   rw [hk] at h2 h3 h4
   have hps := partN_step h2 h3
   have hRl : R.length ≤ 200000 := by omega
   have hkl : k + 1 = M - i := hk.symm
   have hget : (splitL l).drop i = R.take (partN R.length (k + 1)) :: splitK k (R.drop (partN R.length (k + 1))) := h4.symm
   have hil : i < (splitL l).length := by omega
   have hgd : (splitL l).getD i default = R.take (partN R.length (k + 1)) := by
    have := congrArg (fun x => x.getD 0 default) hget
    simpa [List.getD_eq_getElem?_getD, List.getElem?_drop] using this
   have hdr : (splitL l).drop (i + 1) = splitK k (R.drop (partN R.length (k + 1))) := by
    have := congrArg (List.drop 1) hget
    simpa [List.drop_drop] using this
   have htk := take_succ_d hil
   rw [hgd] at htk
   repeat' (with_reducible first|apply Stp.go|refine imp fun _=>?_|refine zq ?_|refine zt ?_|refine zf ?_|refine zg ?_|refine za ?_|refine altF ?_|refine all fun _=>?_|refine both ?_ ?_|refine zu ?_|refine zv ?_|refine cho (fun _=>?_) fun _=>?_|refine zw ?_)
   refine joinI (β := Unit) (fun _ => True) (fun _ => [.lst 4 (R.map En.av) .ro, I .i64 (M : Nat), .own v ((splitL l).take i).length, I .i64 (partN R.length (k + 1) : Nat), I .i64 (M : Nat), I .i64 (i : Nat)]) (fun _ => [.row v EsT 1 (((splitL l).take i).map enL) 0]) ?_ ?_
   ·have hpn : partN R.length (k + 1) = R.length / (M - i) + if R.length % (M - i) = 0 then 0 else 1 := by rw [hk]; rfl
    by_cases hr : R.length % (M - i) = 0
    ·rw [if_pos hr, Nat.add_zero] at hpn
     rw [hpn]
     repeat' (with_reducible first|apply Stp.go|refine imp fun _=>?_|refine zq ?_|refine zt ?_|refine zf ?_|refine zg ?_|refine za ?_|refine altF ?_|refine all fun _=>?_|refine both ?_ ?_|refine zu ?_|refine zv ?_|refine cho (fun _=>?_) fun _=>?_|refine zw ?_)
     all_goals exact meet () trivial (Sub.refl _ _)
    ·rw [if_neg hr] at hpn
     rw [hpn]
     have hr2 : 0 < R.length % (M - i) := by omega
     repeat' (with_reducible first|apply Stp.go|refine imp fun _=>?_|refine zq ?_|refine zt ?_|refine zf ?_|refine zg ?_|refine za ?_|refine altF ?_|refine all fun _=>?_|refine both ?_ ?_|refine zu ?_|refine zv ?_|refine cho (fun _=>?_) fun _=>?_|refine zw ?_)
     all_goals exact meet () trivial (Sub.refl _ _)
   ·rintro ⟨⟩ -
    generalize partN R.length (k + 1) = n at *
    have hln : ((splitL l).take i).length ≤ 200000 := by rw [List.length_take]; omega
    have hRd : (R.drop n).length = R.length - n := List.length_drop
    repeat' (with_reducible first|apply Stp.go|refine imp fun _=>?_|refine zq ?_|refine zt ?_|refine zf ?_|refine zg ?_|refine za ?_|refine altF ?_|refine all fun _=>?_|refine both ?_ ?_|refine zu ?_|refine zv ?_|refine cho (fun _=>?_) fun _=>?_|refine zw ?_)
    rename_i w
    exact again (i + 1, w, R.drop n) (by dsimp only; omega) ⟨by dsimp only; omega, by dsimp only; omega, by dsimp only; omega, by dsimp only; rw [show M - (i + 1) = k by omega]; exact hdr.symm⟩ (by dsimp only; rw [htk]; exact subS _)
  ·have e : i = M := by omega
   subst e
   rw [List.take_of_length_le (by omega)]
   repeat' (with_reducible first|apply Stp.go|refine imp fun _=>?_|refine zq ?_|refine zt ?_|refine zf ?_|refine zg ?_|refine za ?_|refine altF ?_|refine all fun _=>?_|refine both ?_ ?_|refine zu ?_|refine zv ?_|refine cho (fun _=>?_) fun _=>?_|refine zw ?_)
   exact ⟨_, _, _, rfl, retOwn (Sub.refl _ _), rfl, rfl⟩
instance {a : AV} {l : List En} {m : SM} [h : IsL a En.av 4 l m] : PC Tryz.prog 34 [a] (l.length ≤ 100000) (.lst 1 ((splitL l).map enL) .ro) := ⟨fun hl => ⟨[.lst 4 (l.map En.av) .ro], ⟨fun R v hv => SubV.ro _ _ _ R v (h.sub R v hv), trivial⟩, Split_ok l hl⟩⟩
end Go.Ab

namespace Go.Ab
open Go.Proofs
instance {a : AV} {ls : List (List En)} {b : Bool} {m : SM} [h : IsL a enL 1 ls m] : PC Tryz.prog 35 [a, .val (.bool b)] (ls.length ≤ 1000 ∧ ∀ l ∈ ls, l.length ≤ 1000) (.lst 4 ((mergeL b ls).map En.av) .ro) := ⟨fun hl => ⟨[.lst 1 (ls.map enL) m, B b], ⟨h.sub, SubV.refl _, trivial⟩, Merge_ok ls b m hl.1 hl.2⟩⟩
def inputsR (l : List TabR) : AV := if rightT l = true then pickR l else .tuple [.lst 1 (([] : List Int).map it) .ro, I .i64 0, B false]
def move_Inputs.mark : Mark := ⟨fun t => Nat.beq t 6 || Nat.beq t 9, fun t => false, fun t => false, fun t => false, fun t => false⟩
def move_Inputs.ann : Ann := ⟨fun n => [], fun n => none, fun n => none⟩
def move_Inputs.sh (a0 : AV) (σ : Store) (Q : AEnd → Store → Prop) : Prop :=
 Do (aPureC Tryz.prog 21 [a0]) fun t6 =>
 Do (aUn Tryz.prog .not t6) fun t7 =>
 aCond t7
 (Q (.ret (.tuple [(.val (.slice none 0 0)), (.val (.int .i64 0)), (.val (.bool false))])) σ)
 (Do (aPureC Tryz.prog 31 [a0]) fun t9 =>
 Do (aExt t9 0) fun t10 =>
 Do (aExt t9 1) fun t11 =>
 Do (aExt t9 2) fun t12 =>
 Q (.ret (.tuple [t10, t11, t12])) σ)
theorem move_Inputs.eq (a0 : AV) (σ : Store) (Q : AEnd → Store → Prop) : vc (semOf Tryz.prog move_Inputs.mark) Tryz.f9.ntmps move_Inputs.ann (bodyOf Tryz.f9) (endK [.tmp 2, .tmp 3, .tmp 4] Q) (argFr [a0]) σ = move_Inputs.sh a0 σ Q := by kernel_rfl
theorem move_Inputs.go {a0 : AV} {σ : Store} {Q : AEnd → Store → Prop} (h : move_Inputs.sh a0 σ Q) : ACalls Tryz.prog 9 [a0] σ Q :=
 acalls_of_eq [.tmp 2, .tmp 3, .tmp 4] Tryz.func9 (by kernel_rfl) (by kernel_rfl) (by kernel_rfl) (by kernel_rfl) (move_Inputs.eq a0 σ Q) h
theorem Inputs_ok (l : List TabR) (m : SM) (hl : l.length ≤ 1000000) : aPure Tryz.prog 9 [.lst 36 (l.map tbF) m] (inputsR l) := by
 refine ACalls.fin (move_Inputs.go ?_)
 unfold move_Inputs.sh inputsR
 by_cases hr : rightT l = true
 ·rw [if_pos hr]
  have hp := Pick_ok l m hl
  unfold pickR at hp ⊢
  by_cases hk : lvlT l < 3
  ·rw [if_pos hk] at hp ⊢
   have iP : PC Tryz.prog 31 [.lst 36 (l.map tbF) m] True _ := ⟨fun _ => PC.of hp⟩
   repeat' (with_reducible first|apply Stp.go|refine imp fun _=>?_|refine zq ?_|refine zt ?_|refine zf ?_|refine zg ?_|refine za ?_|refine altF ?_|refine all fun _=>?_|refine both ?_ ?_|refine zu ?_|refine zv ?_|refine cho (fun _=>?_) fun _=>?_|refine zw ?_)
   all_goals exact ⟨_, _, _, rfl, Sub.refl _ _, rfl, rfl⟩
  ·rw [if_neg hk] at hp ⊢
   have iP : PC Tryz.prog 31 [.lst 36 (l.map tbF) m] True _ := ⟨fun _ => PC.of hp⟩
   repeat' (with_reducible first|apply Stp.go|refine imp fun _=>?_|refine zq ?_|refine zt ?_|refine zf ?_|refine zg ?_|refine za ?_|refine altF ?_|refine all fun _=>?_|refine both ?_ ?_|refine zu ?_|refine zv ?_|refine cho (fun _=>?_) fun _=>?_|refine zw ?_)
   all_goals exact ⟨_, _, _, rfl, Sub.refl _ _, rfl, rfl⟩
 ·rw [if_neg hr]
  repeat' (with_reducible first|apply Stp.go|refine imp fun _=>?_|refine zq ?_|refine zt ?_|refine zf ?_|refine zg ?_|refine za ?_|refine altF ?_|refine all fun _=>?_|refine both ?_ ?_|refine zu ?_|refine zv ?_|refine cho (fun _=>?_) fun _=>?_|refine zw ?_)
  all_goals exact ⟨_, _, _, rfl, Sub.tuple (retNil it (sz := 1) (by decide) (Sub.app_nil _)), rfl, rfl⟩
def okB (b : Int) (x : TabR) (row : List En) : Bool := fit row && decide (newT b x.lev.toNat row = x)
theorem okB_iff {b : Int} {x : TabR} {row : List En} (hx : mayT x = true) : okB b x row = true ↔ OkRow b x row := by
 have h1 := mayT_lev hx
 unfold okB
 rw [Bool.and_eq_true, decide_eq_true_eq]
 exact ⟨fun h => ⟨h.1, h1.1, h1.2.1, h.2⟩, fun h => ⟨h.fit, h.eq⟩⟩
def allOk (b : Int) (l : List TabR) (ins : List Nat) (RS : List (List En)) : Bool := decide (∀ j, j < ins.length → okB b (l.getD (ins.getD j default) default) (RS.getD j default) = true)
def compactT (b : Int) (l : List TabR) (RS : List (List En)) : (List TabR × List (List En)) × Nat :=
 if rightT l = true then
  (if lvlT l < 3 then
   (if (inK l (lvlT l)).length = RS.length ∧ allOk b l (inK l (lvlT l)) RS = true then ((nextT b l (lvlT l) RS, partsT (lvlT l) RS), 0) else (([], []), 8))
  else (([], []), 5))
 else (([], []), 1)
theorem allOk_no {b : Int} {l : List TabR} {ins : List Nat} {RS : List (List En)} {j : Nat} (hj : j < ins.length) (h : ¬ okB b (l.getD (ins.getD j default) default) (RS.getD j default) = true) : ¬ allOk b l ins RS = true := by
 unfold allOk
 rw [decide_eq_true_eq]
 exact fun g => h (g j hj)
def move_Compact.mark : Mark := ⟨fun t => Nat.beq t 23 || Nat.beq t 27 || Nat.beq t 58 || Nat.beq t 75 || Nat.beq t 76 || Nat.beq t 87, fun t => false, fun t => Nat.beq t 3, fun t => Nat.beq t 46 || Nat.beq t 48 || Nat.beq t 53 || Nat.beq t 57 || Nat.beq t 68 || Nat.beq t 82 || Nat.beq t 84, fun t => false⟩
def move_Compact.ann : Ann := ⟨fun n => bif Nat.beq n 9 then [1, 2, 3, 9, 10, 40, 41, 42] else bif Nat.beq n 18 then [1, 3, 9, 10, 16, 17, 77, 78, 79] else [], fun n => none, fun n => none⟩
def move_Compact.sh (a0 a1 a2 : AV) (σ : Store) (Q : AEnd → Store → Prop) : Prop :=
 Do (aFreeze ((a0 : AV)).cells) fun t3 =>
 Do (aPureC Tryz.prog 21 [a1]) fun t23 =>
 Do (aUn Tryz.prog .not t23) fun t24 =>
 aCond t24
 (Q (.ret (.tuple [(.val (.slice none 0 0)), (.val (.slice none 0 0)), (.val (.int .i64 1))])) σ)
 (Do (aPureC Tryz.prog 31 [a1]) fun t27 =>
 Do (aExt t27 0) fun t28 =>
 Do (aExt t27 1) fun t29 =>
 Do (aExt t27 2) fun t30 =>
 Do (aUn Tryz.prog .not t30) fun t33 =>
 aCond t33
 (Q (.ret (.tuple [(.val (.slice none 0 0)), (.val (.slice none 0 0)), (.val (.int .i64 5))])) σ)
 (Do (aBuiltin Tryz.prog .len #[23] [t28]) fun t36 =>
 Do (aBuiltin Tryz.prog .len #[22] [a2]) fun t38 =>
 Do (aBin Tryz.prog .neq 3 t36 t38) fun t39 =>
 aCond t39
 (Q (.ret (.tuple [(.val (.slice none 0 0)), (.val (.slice none 0 0)), (.val (.int .i64 8))])) σ)
 (Do (aBuiltin Tryz.prog .len #[23] [t28]) fun t41 =>
 aLoop (fun go vs σ =>
 At vs 0 fun s1 => At vs 1 fun s2 => At vs 2 fun s3 => At vs 3 fun s9 => At vs 4 fun s10 => At vs 5 fun s40 => At vs 6 fun s41 => At vs 7 fun s42 => Do (aBin Tryz.prog .lss 3 s42 s41) fun t43 =>
 aCond t43
 (Do (aIndexAddr .slice 1 s40 s42) fun t45 =>
 Do (loadF false 1 t45) fun t46 =>
 Do (loadF true 1 s3) fun t48 =>
 Do (aIndexAddr .slice 36 s1 t46) fun t51 =>
 Do (aFieldAddr 0 1 t51) fun t52 =>
 Do (loadF false 1 t52) fun t53 =>
 Do (aIndexAddr .slice 1 s2 s42) fun t56 =>
 Do (loadF false 1 t56) fun t57 =>
 Do (aPureC Tryz.prog 27 [t48, t53, t57]) fun t58 =>
 Do (aExt t58 0) fun t59 =>
 Do (aExt t58 1) fun t60 =>
 aNewVar 58 [.val (.int .i64 0), .val (.int .i64 0), .val (.int .u8 0), .val (.int .u8 0), .val (.int .u8 0), .val (.int .u8 0), .val (.int .u8 0), .val (.int .u8 0), .val (.int .u8 0), .val (.int .u8 0), .val (.int .u8 0), .val (.int .u8 0), .val (.int .u8 0), .val (.int .u8 0), .val (.int .u8 0), .val (.int .u8 0), .val (.int .u8 0), .val (.int .u8 0), .val (.int .u8 0), .val (.int .u8 0), .val (.int .u8 0), .val (.int .u8 0), .val (.int .u8 0), .val (.int .u8 0), .val (.int .u8 0), .val (.int .u8 0), .val (.int .u8 0), .val (.int .u8 0), .val (.int .u8 0), .val (.int .u8 0), .val (.int .u8 0), .val (.int .u8 0), .val (.int .u8 0), .val (.int .u8 0), .val (.string ⟨#[]⟩), .val (.string ⟨#[]⟩)] σ fun t14 σ_1 =>
 storeA 36 t14 t59 σ_1 fun u σ_2 =>
 Do (aBin Tryz.prog .neq 35 t60 (.val (.int .i64 0))) fun t62 =>
 Do (aGuard t62 false (loadA true 36 t14 σ_2)) fun t64 =>
 Do (aGuard t62 false (aIs s1)) fun t65 =>
 Do (aGuard t62 false (aIs t46)) fun t66 =>
 Do (aGuard t62 false (aIndexAddr .slice 36 t65 t66)) fun t67 =>
 Do (aGuard t62 false (loadF true 36 t67)) fun t68 =>
 Do (aGuard t62 false (aBin Tryz.prog .neq 58 t64 t68)) fun t69 =>
 Do (aPick t62 (.val (.bool true)) t69) fun t70 =>
 aCond t70
 (Q (.ret (.tuple [(.val (.slice none 0 0)), (.val (.slice none 0 0)), (.val (.int .i64 8))])) σ_2)
 (Do (aBin Tryz.prog .add 3 s42 (.val (.int .i64 1))) fun t71 =>
 go [s1, s2, s3, s9, s10, s40, s41, t71] σ_2))
 (Do (aBin Tryz.prog .eql 3 s10 (.val (.int .i64 3))) fun t74 =>
 Do (aPureC Tryz.prog 35 [s2, t74]) fun t75 =>
 Do (aPureC Tryz.prog 34 [t75]) fun t76 =>
 Do (aBuiltin Tryz.prog .len #[22] [t76]) fun t78 =>
 aLoop (fun go_1 vs_1 σ_3 =>
 At vs_1 0 fun s1_1 => At vs_1 1 fun s3_1 => At vs_1 2 fun s9_1 => At vs_1 3 fun s10_1 => At vs_1 4 fun s16 => At vs_1 5 fun s17 => At vs_1 6 fun s77 => At vs_1 7 fun s78 => At vs_1 8 fun s79 => Do (aBin Tryz.prog .lss 3 s79 s78) fun t80 =>
 aCond t80
 (Do (aIndexAddr .slice 1 s77 s79) fun t81 =>
 Do (loadF false 1 t81) fun t82 =>
 Do (loadF true 1 s3_1) fun t84 =>
 Do (aPureC Tryz.prog 27 [t84, s10_1, t82]) fun t87 =>
 Do (aExt t87 0) fun t88 =>
 Do (aExt t87 1) fun t89 =>
 aNewVar 58 [.val (.int .i64 0), .val (.int .i64 0), .val (.int .u8 0), .val (.int .u8 0), .val (.int .u8 0), .val (.int .u8 0), .val (.int .u8 0), .val (.int .u8 0), .val (.int .u8 0), .val (.int .u8 0), .val (.int .u8 0), .val (.int .u8 0), .val (.int .u8 0), .val (.int .u8 0), .val (.int .u8 0), .val (.int .u8 0), .val (.int .u8 0), .val (.int .u8 0), .val (.int .u8 0), .val (.int .u8 0), .val (.int .u8 0), .val (.int .u8 0), .val (.int .u8 0), .val (.int .u8 0), .val (.int .u8 0), .val (.int .u8 0), .val (.int .u8 0), .val (.int .u8 0), .val (.int .u8 0), .val (.int .u8 0), .val (.int .u8 0), .val (.int .u8 0), .val (.int .u8 0), .val (.int .u8 0), .val (.string ⟨#[]⟩), .val (.string ⟨#[]⟩)] σ_3 fun t20 σ_4 =>
 storeA 36 t20 t88 σ_4 fun u_1 σ_5 =>
 Do (loadA true 36 t20 σ_5) fun t91 =>
 Do (aSlLit (mkE [.val (.int .i64 0), .val (.int .i64 0), .val (.int .u8 0), .val (.int .u8 0), .val (.int .u8 0), .val (.int .u8 0), .val (.int .u8 0), .val (.int .u8 0), .val (.int .u8 0), .val (.int .u8 0), .val (.int .u8 0), .val (.int .u8 0), .val (.int .u8 0), .val (.int .u8 0), .val (.int .u8 0), .val (.int .u8 0), .val (.int .u8 0), .val (.int .u8 0), .val (.int .u8 0), .val (.int .u8 0), .val (.int .u8 0), .val (.int .u8 0), .val (.int .u8 0), .val (.int .u8 0), .val (.int .u8 0), .val (.int .u8 0), .val (.int .u8 0), .val (.int .u8 0), .val (.int .u8 0), .val (.int .u8 0), .val (.int .u8 0), .val (.int .u8 0), .val (.int .u8 0), .val (.int .u8 0), .val (.string ⟨#[]⟩), .val (.string ⟨#[]⟩)]) 36 1 [(0, t91)]) fun t92 =>
 aAppend 58 36 80 s17 t92 σ_5 (subK fun t93 σ_6 =>
 Do (aBin Tryz.prog .add 3 s79 (.val (.int .i64 1))) fun t94 =>
 go_1 [s1_1, s3_1, s9_1, s10_1, s16, t93, s77, s78, t94] σ_6))
 (aCall Tryz.prog 17 [s1_1, s9_1, s17] σ_3 (fun t98 σ_7 =>
 Q (.ret (.tuple [t98, s16, (.val (.int .i64 0))])) σ_7) (fun e σ_8 => Q (.pan e) σ_8)))
 [s1, s3, s9, s10, t76, (.val (.slice none 0 0)), t76, t78, (.val (.int .i64 0))] σ))
 [a1, a2, t3, t28, t29, t28, t41, (.val (.int .i64 0))] σ)))
theorem move_Compact.eq (a0 a1 a2 : AV) (σ : Store) (Q : AEnd → Store → Prop) : vc (semOf Tryz.prog move_Compact.mark) Tryz.f13.ntmps move_Compact.ann (bodyOf Tryz.f13) (endK [.tmp 6, .tmp 7, .tmp 8] Q) (argFr [a0, a1, a2]) σ = move_Compact.sh a0 a1 a2 σ Q := by kernel_rfl
theorem move_Compact.go {a0 a1 a2 : AV} {σ : Store} {Q : AEnd → Store → Prop} (h : move_Compact.sh a0 a1 a2 σ Q) : ACalls Tryz.prog 13 [a0, a1, a2] σ Q :=
 acalls_of_eq [.tmp 6, .tmp 7, .tmp 8] Tryz.func13 (by kernel_rfl) (by kernel_rfl) (by kernel_rfl) (by kernel_rfl) (move_Compact.eq a0 a1 a2 σ Q) h
theorem Compact_ok (b : Int) (l : List TabR) (RS : List (List En)) (m m' : SM) (hl : l.length ≤ 1000000) (hR : RS.length ≤ 1000000) (hRl : ∀ r ∈ RS, r.length ≤ 1000000) : aPure Tryz.prog 13 [trA b, .lst 36 (l.map tbF) m, .lst 1 (RS.map enL) m'] (.tuple [.lst 36 ((compactT b l RS).1.1.map tbF) .ro, .lst 1 ((compactT b l RS).1.2.map enL) .ro, I .i64 ((compactT b l RS).2 : Nat)]) := by
 refine ACalls.fin (move_Compact.go ?_)
 unfold move_Compact.sh compactT
 by_cases hr : rightT l = true
 ·rw [if_pos hr]
  have hp := Pick_ok l m hl
  unfold pickR at hp
  obtain ⟨hm, hpw, h5⟩ := (rightT_iff l).1 hr
  by_cases hk : lvlT l < 3
  ·rw [if_pos hk] at hp ⊢
   have hmI : ∀ j, j < (inK l (lvlT l)).length → (inK l (lvlT l)).getD j default < l.length := fun j hj => (inK_mem.1 (getD_memT hj)).1
   have hIl : (inK l (lvlT l)).length ≤ l.length := Nat.le_trans (List.length_filter_le _ _) (by rw [List.length_range]; exact Nat.le_refl _)
   generalize lvlT l = k at *
   rw [map_itN] at hp
   have iP : PC Tryz.prog 31 [.lst 36 (l.map tbF) m] True _ := ⟨fun _ => PC.of hp⟩
   have htt : (true : Bool) = true := rfl
   by_cases hn : (inK l k).length = RS.length
   ·repeat' (with_reducible first|apply Stp.go|refine imp fun _=>?_|refine zq ?_|refine zt ?_|refine zf ?_|refine zg ?_|refine za ?_|refine altF ?_|refine all fun _=>?_|refine both ?_ ?_|refine zu ?_|refine zv ?_|refine cho (fun _=>?_) fun _=>?_|refine zw ?_)
    have hRn : RS.length ≤ 1000 := by omega
    refine loopI (β := Nat) (fun j => j ≤ (inK l k).length ∧ ∀ i, i < j → okB b (l.getD ((inK l k).getD i default) default) (RS.getD i default) = true)
     (fun j => [.lst 36 (l.map tbF) m, .lst 1 (RS.map enL) m', .rptr [I .i64 b], .lst 1 ((inK l k).map itN) .ro, I .i64 (k + 1 : Nat), .lst 1 ((inK l k).map itN) .ro, I .i64 ((inK l k).length : Nat), I .i64 (j : Nat)]) (fun _ => []) (fun j => (inK l k).length - j) 0 ⟨Nat.zero_le _, fun i h => absurd h (Nat.not_lt_zero _)⟩ (Sub.refl _ _) ?_
    rintro j ⟨j1, j2⟩
    by_cases hj : j < (inK l k).length
    ·have hix := hmI j hj
     have hjR : j < RS.length := by omega
     have hrl := hRl _ (getD_memT hjR)
     have hmx := mayT_lev (hm _ (getD_memT hix))
     obtain ⟨lv, hlv⟩ : ∃ lv : Nat, (l.getD ((inK l k).getD j default) default).lev = (lv : Nat) := ⟨_, (Int.toNat_of_nonneg hmx.1).symm⟩
     have hlv4 : lv < 4 := by omega
     have hno := allOk_no (b := b) (l := l) (RS := RS) hj
     unfold okB at hno j2
     generalize hx : l.getD ((inK l k).getD j default) default = x at *
     generalize hrow : RS.getD j default = row at *
     have hlt : x.lev.toNat = lv := by rw [hlv, Int.toNat_natCast]
     rw [hlt] at hno
     by_cases hf : fit row = true
     ·have iD : ∀ {a : AV} {m : SM} [h : IsL a En.av 4 row m], PC Tryz.prog 27 [trA b, .val (.int .i64 ((lv : Nat) : Int)), a] True (.tuple [tbF (newT b lv row), .val (.int .i64 0)]) := desc17 (b := b) (lev := lv) rfl hf hlv4
      by_cases he : newT b lv row = x
      ·repeat' (with_reducible first|apply Stp.go|refine imp fun _=>?_|refine zq ?_|refine zt ?_|refine zf ?_|refine zg ?_|refine za ?_|refine altF ?_|refine all fun _=>?_|refine both ?_ ?_|refine zu ?_|refine zv ?_|refine cho (fun _=>?_) fun _=>?_|refine zw ?_)
       rw [hx, hlv, hrow]
       repeat' (with_reducible first|apply Stp.go|refine imp fun _=>?_|refine zq ?_|refine zt ?_|refine zf ?_|refine zg ?_|refine za ?_|refine altF ?_|refine all fun _=>?_|refine both ?_ ?_|refine zu ?_|refine zv ?_|refine cho (fun _=>?_) fun _=>?_|refine zw ?_)
       ·refine again (j + 1) (by omega) ⟨by omega, fun i hi => ?_⟩ (Sub.app_nil _)
        by_cases e : i = j
        ·subst e
         unfold okB
         rw [hx, hrow, hlt, hf, decide_eq_true he]
         rfl
        ·exact j2 i (by omega)
       ·exfalso
        rename_i h
        exact h (he.trans hx.symm)
      ·rw [if_neg fun h => hno (by rw [hf, decide_eq_false he]; exact Bool.false_ne_true) h.2]
       repeat' (with_reducible first|apply Stp.go|refine imp fun _=>?_|refine zq ?_|refine zt ?_|refine zf ?_|refine zg ?_|refine za ?_|refine altF ?_|refine all fun _=>?_|refine both ?_ ?_|refine zu ?_|refine zv ?_|refine cho (fun _=>?_) fun _=>?_|refine zw ?_)
       rw [hx, hlv, hrow]
       repeat' (with_reducible first|apply Stp.go|refine imp fun _=>?_|refine zq ?_|refine zt ?_|refine zf ?_|refine zg ?_|refine za ?_|refine altF ?_|refine all fun _=>?_|refine both ?_ ?_|refine zu ?_|refine zv ?_|refine cho (fun _=>?_) fun _=>?_|refine zw ?_)
       ·exfalso
        rename_i h
        exact he (Eq.trans (show newT b lv row = _ from h) hx)
       ·exact ⟨_, _, _, rfl, Sub.tuple (retNil tbF (sz := 36) (by decide) (retNil enL (sz := 1) (by decide) (Sub.app_nil _))), rfl, rfl⟩
     ·rw [if_neg fun h => hno (by rw [Bool.eq_false_iff.2 hf, Bool.false_and]; exact Bool.false_ne_true) h.2]
      have hde : dErr lv row = 1 := by unfold dErr dFit; rw [Bool.eq_false_iff.2 hf]; rfl
      repeat' (with_reducible first|apply Stp.go|refine imp fun _=>?_|refine zq ?_|refine zt ?_|refine zf ?_|refine zg ?_|refine za ?_|refine altF ?_|refine all fun _=>?_|refine both ?_ ?_|refine zu ?_|refine zv ?_|refine cho (fun _=>?_) fun _=>?_|refine zw ?_)
      rw [hx, hlv, hrow]
      repeat' (with_reducible first|apply Stp.go|refine imp fun _=>?_|refine zq ?_|refine zt ?_|refine zf ?_|refine zg ?_|refine za ?_|refine altF ?_|refine all fun _=>?_|refine both ?_ ?_|refine zu ?_|refine zv ?_|refine cho (fun _=>?_) fun _=>?_|refine zw ?_)
      all_goals exact ⟨_, _, _, rfl, Sub.tuple (retNil tbF (sz := 36) (by decide) (retNil enL (sz := 1) (by decide) (Sub.app_nil _))), rfl, rfl⟩
    ·have ej : j = (inK l k).length := by omega
     subst ej
     rw [if_pos ⟨hn, decide_eq_true j2⟩]
     have hRO : RowsOf b l (inK l k) RS := ⟨hn.symm, fun j hj => (okB_iff (hm _ (getD_memT (hmI j hj)))).1 (j2 j hj)⟩
     have hfit : ∀ r ∈ RS, fit r = true := fun r hr => hRO.fit hr
     have hRS : ∀ r ∈ RS, r.length ≤ 1000 := fun r hr => by have := (fit_right (hfit r hr)).1; omega
     have hpf : ∀ p ∈ partsT k RS, fit p = true := fun p hp => parts_fit hfit hp
     have hpl := parts_len17 (k := k) hfit
     have hmg := merge_le (decide (k + 1 = 3)) _ RS rfl
     have htl := totL_le' hRS
     have hm6 : (mergeL (decide (k + 1 = 3)) RS).length ≤ 100000 := by have := totL_le (RS := RS) fun r hr => (fit_right (hfit r hr)).1; omega
     have iI : IsL (.lst 1 ((inK l k).map itN) .ro) it 1 ((inK l k).map Int.ofNat) .ro := ⟨by rw [← map_itN]; exact SubV.refl _⟩
     repeat' (with_reducible first|apply Stp.go|refine imp fun _=>?_|refine zq ?_|refine zt ?_|refine zf ?_|refine zg ?_|refine za ?_|refine altF ?_|refine all fun _=>?_|refine both ?_ ?_|refine zu ?_|refine zv ?_|refine cho (fun _=>?_) fun _=>?_|refine zw ?_)
     rw [show splitL (mergeL (decide (k + 1 = 3)) RS) = partsT k RS from rfl]
     have hnx : nextT b l k RS = placeT l ((inK l k).map Int.ofNat) ((partsT k RS).map (newT b (k + 1))) := rfl
     rw [hnx]
     generalize partsT k RS = PP at *
     refine loopI (β := Nat × Value) (fun x => x.1 ≤ PP.length)
      (fun x => [.lst 36 (l.map tbF) m, .rptr [I .i64 b], .lst 1 ((inK l k).map itN) .ro, I .i64 (k + 1 : Nat), .lst 1 (PP.map enL) .ro, .own x.2 ((PP.take x.1).map (newT b (k + 1))).length, .lst 1 (PP.map enL) .ro, I .i64 (PP.length : Nat), I .i64 (x.1 : Nat)])
      (fun x => [.row x.2 TbE 36 (((PP.take x.1).map (newT b (k + 1))).map tbF) 0]) (fun x => PP.length - x.1) (0, .slice none 0 0) (Nat.zero_le _) (Sub.nil_own TbE (sz := 36) (by decide) _ [_, _, _, _, _] [_, _, _]) ?_
     rintro ⟨j, v⟩ q1
     dsimp only at q1 ⊢
     by_cases hjp : j < PP.length
     ·have htk := congrArg (List.map (newT b (k + 1))) (take_succ_d hjp)
      rw [List.map_append] at htk
      have hjf := hpf _ (getD_memT hjp)
      have hln : ((PP.take j).map (newT b (k + 1))).length ≤ 10000 := by rw [List.length_map, List.length_take]; omega
      have iD : ∀ {a : AV} {m : SM} [h : IsL a En.av 4 (PP.getD j default) m], PC Tryz.prog 27 [trA b, .val (.int .i64 ((k + 1 : Nat) : Int)), a] True (.tuple [tbF (newT b (k + 1) (PP.getD j default)), .val (.int .i64 0)]) := desc17 (b := b) (lev := k + 1) rfl hjf (by omega)
      repeat' (with_reducible first|apply Stp.go|refine imp fun _=>?_|refine zq ?_|refine zt ?_|refine zf ?_|refine zg ?_|refine za ?_|refine altF ?_|refine all fun _=>?_|refine both ?_ ?_|refine zu ?_|refine zv ?_|refine cho (fun _=>?_) fun _=>?_|refine zw ?_)
      rename_i bx w
      exact again (j + 1, w) (by dsimp only; omega) (by dsimp only; omega) (by dsimp only; rw [htk]; exact Sub.drop_ (.cons _ (.cons_cons _ .slnil)) _)
     ·have ej : j = PP.length := by omega
      subst ej
      rw [List.take_length]
      have hln : (PP.map (newT b (k + 1))).length ≤ 10000 := by rw [List.length_map]; omega
      repeat' (with_reducible first|apply Stp.go|refine imp fun _=>?_|refine zq ?_|refine zt ?_|refine zf ?_|refine zg ?_|refine za ?_|refine altF ?_|refine all fun _=>?_|refine both ?_ ?_|refine zu ?_|refine zv ?_|refine cho (fun _=>?_) fun _=>?_|refine zw ?_)
      exact ⟨_, _, _, rfl, Sub.refl _ _, rfl, rfl⟩
   ·rw [if_neg fun h => hn h.1]
    repeat' (with_reducible first|apply Stp.go|refine imp fun _=>?_|refine zq ?_|refine zt ?_|refine zf ?_|refine zg ?_|refine za ?_|refine altF ?_|refine all fun _=>?_|refine both ?_ ?_|refine zu ?_|refine zv ?_|refine cho (fun _=>?_) fun _=>?_|refine zw ?_)
    all_goals exact ⟨_, _, _, rfl, Sub.tuple (retNil tbF (sz := 36) (by decide) (retNil enL (sz := 1) (by decide) (Sub.app_nil _))), rfl, rfl⟩
  ·rw [if_neg hk] at hp ⊢
   have iP : PC Tryz.prog 31 [.lst 36 (l.map tbF) m] True _ := ⟨fun _ => PC.of hp⟩
   have hff : ¬ (false : Bool) = true := by decide
   repeat' (with_reducible first|apply Stp.go|refine imp fun _=>?_|refine zq ?_|refine zt ?_|refine zf ?_|refine zg ?_|refine za ?_|refine altF ?_|refine all fun _=>?_|refine both ?_ ?_|refine zu ?_|refine zv ?_|refine cho (fun _=>?_) fun _=>?_|refine zw ?_)
   all_goals exact ⟨_, _, _, rfl, Sub.tuple (retNil tbF (sz := 36) (by decide) (retNil enL (sz := 1) (by decide) (Sub.app_nil _))), rfl, rfl⟩
 ·rw [if_neg hr]
  repeat' (with_reducible first|apply Stp.go|refine imp fun _=>?_|refine zq ?_|refine zt ?_|refine zf ?_|refine zg ?_|refine za ?_|refine altF ?_|refine all fun _=>?_|refine both ?_ ?_|refine zu ?_|refine zv ?_|refine cho (fun _=>?_) fun _=>?_|refine zw ?_)
  all_goals exact ⟨_, _, _, rfl, Sub.tuple (retNil tbF (sz := 36) (by decide) (retNil enL (sz := 1) (by decide) (Sub.app_nil _))), rfl, rfl⟩
end Go.Ab

namespace Go.Ab
theorem foldE_take_succ {l : List En} {i : Nat} (h : i < l.length) : foldE (l.take (i + 1)) = putE (l.getD i default) (foldE (l.take i)) := by rw [take_succ_d h, foldE_snoc]
end Go.Ab
